/- Part 2 of what the proof leans on: Engine, part 24; Engine, part 25; Leaves, part 1; Leaves, part 2; Leaves, part 3; Leaves, part 4; Leaves, part 5; Leaves, part 6; Leaves, part 7; Leaves, part 8; Leaves, part 9; Leaves, part 10; Leaves, part 11; Leaves, part 12; Leaves, part 13; From-tos of the document (enveloperef2), part 1; From-tos of the document (enveloperef2), part 2; Fields, part 1; Tapes, part 1; Floats, part 1; Floats, part 2; Floats, part 3; Floats, part 4; Floats, part 5; Floats, part 6; Tapes, part 2; Fields, part 2; From-tos as cells; Models, part 1; Models, part 2; Models, part 3; Models, part 4. Conditions: as each theorem says. -/
import Derived.Test.YtcigcfneldipkaaC1
import Derived.Test.YtcigcfneldipkaaProg
set_option linter.unusedVariables false
/- Engine, part 24: pieces of code put together: where each begins and ends, told by the few places that matter; loops. Condition: the contracts that the evaluator leans on hold, the decisions are what the tests say. -/
namespace Go.Eng
open Go Go.RowKit

def cL : Code → Code
  | .seq a _ => a
  | .block _ b => b
  | .loop b => b
  | .cond _ x _ => x
  | c => c
def cR : Code → Code
  | .seq _ b => b
  | .cond _ _ y => y
  | c => c
def isSeq : Code → Bool | .seq _ _ => true | _ => false
def isLoop : Code → Bool | .loop _ => true | _ => false
def isBlock (id : Nat) : Code → Bool | .block j _ => Nat.beq j id | _ => false

def envZ : List Nat → List AV → AEnv
  | t :: ts, x :: xs => upd (envZ ts xs) t (some x)
  | _, _ => fun _ => none

/-- A state told by the few places that matter. -/
def mk (ts : List Nat) (xs : List AV) (bs : List ABlk) (dec : List Bool) : St := ⟨envZ ts xs, heapL 0 bs, bs.length, dec, true⟩

def getAll (env : AEnv) : List Nat → Option (List AV)
  | [] => some []
  | t :: ts => match env t, getAll env ts with
    | some x, some xs => some (x :: xs)
    | _, _ => none

structure View where
  ex : Ex
  xs : List AV
  bs : List ABlk
  ok : Bool

def view (C : Ctx) (nt : Nat) (qs : List Nat) (fuel : Nat) (c : Code) (s : St) (ts : List Nat) : Option View :=
  match evCode C nt qs fuel c s with
  | some (e, s1) => match getAll s1.env ts with
    | some ys =>
      let ids := reach s1.heap 4096 (idsL 4096 ys) []
      match renL true ids 0 4096 ys, renBlks true ids 0 s1.heap ids with
      | some xs, some bs => bif nodupB ids then some ⟨e, xs, bs, s1.ok⟩ else none
      | _, _ => none
    | none => none
  | none => none

section
variable {C : Ctx} {w0 : World} {nt : Nat} {qs : List Nat} {fuel : Nat}

theorem envZ_V {P : Program} {φ : Phi} {im : Im} {env : AEnv} {h : AHeap} {a : Act} {w : World} (RF : RelF P w0 nt φ im env h a w) {ids : List Nat} {n : Nat} : ∀ {ts : List Nat} {ys xs : List AV} {d : Nat}, getAll env ts = some ys → renL true ids n d ys = some xs →
    ∀ t x, envZ ts xs t = some x → ∃ v, a.tmps[t]? = some v ∧ V im (renPhi ids n φ) x v
  | [], ys, xs, d, _, _, t, x, e => by cases xs <;> cases e
  | u :: us, ys, xs, 0, _, h2, t, x, e => by simp [renL] at h2
  | u :: us, ys, xs, d + 1, h1, h2, t, x, e => by
    simp only [getAll] at h1
    split at h1
    · rename_i y ys' hy hys
      cases h1
      simp only [renL] at h2
      split at h2
      · rename_i z zs hz hzs
        cases h2
        simp only [envZ] at e
        by_cases htu : t = u
        · subst htu
          rw [upd_same] at e
          cases e
          obtain ⟨v, g1, g2⟩ := RF.env t y hy
          exact ⟨v, g1, ren_V (fun _ b c e => e) hz g2⟩
        · rw [upd_other _ _ _ htu] at e
          exact envZ_V RF hys hzs t x e
      · cases h2
    · cases h1

theorem goes_view (hO : OrcOK C.P C.orc) (hm : C.P.follows .mixedOrders = true) {c : Code} {s : St} {ts : List Nat} {v : View} (h : view C nt qs fuel c s ts = some v) (hok : v.ok = true) (dec : List Bool) : Goes C w0 nt c s v.ex (mk ts v.xs v.bs dec) := by
  unfold view at h
  split at h
  · rename_i e s1 he
    split at h
    · rename_i ys hys
      dsimp only at h
      split at h
      · rename_i xs bs hxs hbs
        cases hn : nodupB (reach s1.heap 4096 (idsL 4096 ys) []) with
        | false => rw [hn] at h; cases h
        | true =>
          rw [hn] at h
          cases h
          generalize hids : reach s1.heap 4096 (idsL 4096 ys) [] = ids at *
          obtain ⟨_, hgo⟩ := evCode_sound (w0 := w0) hO hm c s s1 e he hok
          refine ⟨fun {a w} R => Go.wp_mono (hgo.of R) fun x a' w' ⟨hx, hR⟩ => ⟨hx, ?_⟩⟩
          obtain ⟨⟨φ, im, RF, fφ⟩, fh⟩ := hR
          have hlen := (renBlks_is hbs).1
          refine ⟨⟨renPhi ids 0 φ, im, ⟨RF.hrep.ren hn hbs im (fun b cs e => e) (fun _ b c e => e), envZ_V RF hys hxs, RF.size, RF.defers, RF.below⟩, fun i hi => ?_⟩, fun i hi => ?_⟩
          · have hi' : bs.length ≤ i := hi
            unfold renPhi
            rw [if_pos (Nat.zero_le _), List.getElem?_eq_none (by omega)]
            rfl
          · have hi' : bs.length ≤ i := hi
            show heapL 0 bs i = none
            cases hp : heapL 0 bs i with
            | none => rfl
            | some k =>
              have := (heapL_is hp).2
              rw [List.getElem?_eq_none (by omega)] at this
              cases this
      · cases h
    · cases h
  · cases h

theorem goes_seq {c : Code} (hc : isSeq c = true) {s s1 s2 : St} {e : Ex} (h1 : Goes C w0 nt (cL c) s .normal s1) (h2 : Goes C w0 nt (cR c) s1 e s2) : Goes C w0 nt c s e s2 := by
  cases c <;> cases hc
  refine ⟨fun {a w} R => wp_seq (Go.wp_mono (h1.of R) fun x a' w' ⟨hx, hR⟩ => ?_)⟩
  subst hx
  exact h2.of hR

/-- The first of two does not end as it should: the second is not reached. -/
theorem goes_seq_out {c : Code} (hc : isSeq c = true) {s s1 : St} {e : Ex} (he : e ≠ .normal) (h1 : Goes C w0 nt (cL c) s e s1) : Goes C w0 nt c s e s1 := by
  cases c <;> cases hc
  refine ⟨fun {a w} R => wp_seq (Go.wp_mono (h1.of R) fun x a' w' ⟨hx, hR⟩ => ?_)⟩
  subst hx
  cases e with
  | normal => exact absurd rfl he
  | exit j => exact ⟨rfl, hR⟩
  | ret => exact ⟨rfl, hR⟩

theorem goes_block {id : Nat} {c : Code} (hc : isBlock id c = true) {s s1 : St} (h1 : Goes C w0 nt (cL c) s (.exit id) s1) : Goes C w0 nt c s .normal s1 := by
  cases c <;> simp [isBlock] at hc
  subst hc
  refine ⟨fun {a w} R => wp_block (Go.wp_mono (h1.of R) fun x a' w' ⟨hx, hR⟩ => ?_)⟩
  subst hx
  simp only [Ex.toExit, Exit.inBlock, if_true]
  exact ⟨trivial, hR⟩

theorem goes_block_normal {id : Nat} {c : Code} (hc : isBlock id c = true) {s s1 : St} (h1 : Goes C w0 nt (cL c) s .normal s1) : Goes C w0 nt c s .normal s1 := by
  cases c <;> simp [isBlock] at hc
  refine ⟨fun {a w} R => wp_block (Go.wp_mono (h1.of R) fun x a' w' ⟨hx, hR⟩ => ?_)⟩
  subst hx
  exact ⟨rfl, hR⟩

theorem goes_block_ret {id : Nat} {c : Code} (hc : isBlock id c = true) {s s1 : St} (h1 : Goes C w0 nt (cL c) s .ret s1) : Goes C w0 nt c s .ret s1 := by
  cases c <;> simp [isBlock] at hc
  refine ⟨fun {a w} R => wp_block (Go.wp_mono (h1.of R) fun x a' w' ⟨hx, hR⟩ => ?_)⟩
  subst hx
  exact ⟨rfl, hR⟩

theorem goes_loop {c : Code} (hc : isLoop c = true) {e : Ex} (he : e ≠ .normal) {s2 : St} (n : Nat) (S : Nat → St) (h1 : ∀ i, i < n → Goes C w0 nt (cL c) (S i) .normal (S (i + 1))) (h2 : Goes C w0 nt (cL c) (S n) e s2) : Goes C w0 nt c (S 0) e s2 := by
  cases c <;> cases hc
  rename_i b
  refine ⟨fun {a w} R => wp_loop_rounds (n + 1) ?_⟩
  have key : ∀ m i, i + m = n → ∀ {a : Act} {w : World}, RelS C.P w0 nt (S i) a w → Code.rounds C.P b (fun x a' w' => x = e.toExit ∧ RelS C.P w0 nt s2 a' w') (m + 1) a w := by
    intro m
    induction m with
    | zero =>
      intro i hi a w R
      have : i = n := by omega
      subst this
      rw [rounds_succ]
      refine Go.wp_mono (h2.of R) fun x a' w' ⟨hx, hR⟩ => ?_
      subst hx
      cases e with
      | normal => exact absurd rfl he
      | exit j => exact ⟨rfl, hR⟩
      | ret => exact ⟨rfl, hR⟩
    | succ m ih =>
      intro i hi a w R
      rw [rounds_succ]
      refine Go.wp_mono ((h1 i (by omega)).of R) fun x a' w' ⟨hx, hR⟩ => ?_
      subst hx
      exact ih (i + 1) (by omega) hR
  exact key n 0 (by omega) R
end
end Go.Eng
/- Engine, part 25: pieces of code put together where rows are not spelled out: rows that are kept as they are, rows that are frozen (from then on like rows that came in). Condition: the contracts that the evaluator leans on hold, the decisions are what the tests say. -/
namespace Go.Eng
open Go Go.RowKit

def look {α : Type} : List (Nat × α) → Nat → Option α
  | [], _ => none
  | p :: ps, i => bif Nat.beq p.1 i then some p.2 else look ps i

/-! ### Values under new numbers, what is frozen by what it holds -/
mutual
def sub (kp : Bool) (σ : List (Nat × List AV)) (ids : List Nat) (n : Nat) : Nat → AV → Option AV
  | 0, _ => none
  | _ + 1, .ptr i off => match look σ i with
    | some cs => some (.sptr cs off)
    | none => match idxOf ids n i with
      | some j => some (.ptr j off)
      | none => none
  | _ + 1, .slc i off len => match look σ i with
    | some cs => some (.snap (cs.drop off) len)
    | none => match idxOf ids n i with
      | some j => some (.slc j off len)
      | none => none
  | _ + 1, .snap c l => bif kp then some (.snap c l) else none
  | _ + 1, .sptr c o => bif kp then some (.sptr c o) else none
  | d + 1, .fn f a c => match subL kp σ ids n d a, subL kp σ ids n d c with
    | some a, some c => some (.fn f a c)
    | _, _ => none
  | d + 1, .agg cs => match subL kp σ ids n d cs with
    | some cs => some (.agg cs)
    | none => none
  | d + 1, .tup cs => match subL kp σ ids n d cs with
    | some cs => some (.tup cs)
    | none => none
  | _ + 1, x => some x
def subL (kp : Bool) (σ : List (Nat × List AV)) (ids : List Nat) (n : Nat) : Nat → List AV → Option (List AV)
  | 0, _ => none
  | _ + 1, [] => some []
  | d + 1, x :: xs => match sub kp σ ids n d x, subL kp σ ids n d xs with
    | some y, some ys => some (y :: ys)
    | _, _ => none
end

/-- What is frozen stands for what was there. -/
def SigOk (σ : List (Nat × List AV)) (φ : Phi) (im : Im) : Prop :=
  ∀ i cs, look σ i = some cs → ∀ (im0 : Im) (off : Nat) (v : Value), (∀ len, V im0 φ (.slc i off len) v → V im (fun _ => none) (.snap (cs.drop off) len) v) ∧ (V im0 φ (.ptr i off) v → V im (fun _ => none) (.sptr cs off) v)

theorem SigOk.nil (φ : Phi) (im : Im) : SigOk [] φ im := fun i cs h => by cases h

theorem SigOk.mono {σ : List (Nat × List AV)} {φ : Phi} {im im' : Im} (h : SigOk σ φ im) (hi : Im.le im im') : SigOk σ φ im' := fun i cs e im0 off v =>
  ⟨fun len hv => ((h i cs e im0 off v).1 len hv).mono (Phi.le_refl _) hi, fun hv => ((h i cs e im0 off v).2 hv).mono (Phi.le_refl _) hi⟩

section
variable {σ : List (Nat × List AV)} {ids : List Nat} {n : Nat} {φ : Phi} {im im' : Im} {kp : Bool}

mutual
theorem sub_V (hσ : SigOk σ φ im') (hk : kp = true → Im.le im im') : ∀ {d : Nat} {x y : AV} {v : Value}, sub kp σ ids n d x = some y → V im φ x v → V im' (renPhi ids n φ) y v
  | 0, _, _, _, h, _ => by simp [sub] at h
  | d + 1, .undef, _, _, h, hx => by simp only [sub] at h; cases h; cases hx; exact .undef _
  | d + 1, .bool _, _, _, h, hx => by simp only [sub] at h; cases h; cases hx; exact .bool _ _
  | d + 1, .int _ _, _, _, h, hx => by simp only [sub] at h; cases h; cases hx; exact .int _ _ _
  | d + 1, .flt _, _, _, h, hx => by simp only [sub] at h; cases h; cases hx; exact .flt _ _ (by assumption)
  | d + 1, .str _, _, _, h, hx => by simp only [sub] at h; cases h; cases hx; exact .str _ _
  | d + 1, .nilp, _, _, h, hx => by simp only [sub] at h; cases h; cases hx; exact .nilp _
  | d + 1, .nils, _, _, h, hx => by simp only [sub] at h; cases h; cases hx; exact .nils _
  | d + 1, .nilfn, _, _, h, hx => by simp only [sub] at h; cases h; cases hx; exact .nilfn _
  | d + 1, .nilif, _, _, h, hx => by simp only [sub] at h; cases h; cases hx; exact .nilif _
  | d + 1, .snap _ _, _, _, h, hx => by
    simp only [sub] at h
    cases hkp : kp with
    | false => rw [hkp] at h; cases h
    | true =>
      rw [hkp] at h
      cases h
      cases hx with
      | snap _ _ _ b o cap cs vs him hvs hl hle => exact .snap _ _ _ b o cap cs vs (hk hkp _ _ him) hvs (hl.mono (fun _ _ e => e) (hk hkp)) hle
      | snape => exact .snape _ _ _ _
  | d + 1, .sptr _ _, _, _, h, hx => by
    simp only [sub] at h
    cases hkp : kp with
    | false => rw [hkp] at h; cases h
    | true =>
      rw [hkp] at h
      cases h
      cases hx with
      | sptr _ _ _ b o cs vs him hvs hl => exact .sptr _ _ _ b o cs vs (hk hkp _ _ him) hvs (hl.mono (fun _ _ e => e) (hk hkp))
  | d + 1, .ptr i off, _, _, h, hx => by
    simp only [sub] at h
    split at h
    · rename_i cs hcs
      cases h
      exact (((hσ i cs hcs im off _).2 hx).mono (Phi.none_le _) (Im.le_refl _))
    · split at h
      · rename_i j hj
        cases h
        cases hx with
        | ptr _ _ _ l hl => exact .ptr _ _ _ l (by rw [renPhi_of hj]; exact hl)
      · cases h
  | d + 1, .slc i off len, _, _, h, hx => by
    simp only [sub] at h
    split at h
    · rename_i cs hcs
      cases h
      exact (((hσ i cs hcs im off _).1 len hx).mono (Phi.none_le _) (Im.le_refl _))
    · split at h
      · rename_i j hj
        cases h
        cases hx with
        | slc _ _ _ _ cap l hl a b => exact .slc _ _ _ _ cap l (by rw [renPhi_of hj]; exact hl) a b
        | slc0 => exact .slc0 _ _ _
      · cases h
  | d + 1, .fn f a c, _, _, h, hx => by
    simp only [sub] at h
    split at h
    · rename_i a1 c1 h1 h2
      cases h
      cases hx with
      | fn _ _ _ _ a' c' ha hc => exact .fn _ _ _ _ a' c' (subL_V hσ hk h1 ha) (subL_V hσ hk h2 hc)
    · cases h
  | d + 1, .agg cs, _, _, h, hx => by
    simp only [sub] at h
    split at h
    · rename_i cs1 h1
      cases h
      cases hx with
      | agg _ _ cs' hv => exact .agg _ _ cs' (subL_V hσ hk h1 hv)
    · cases h
  | d + 1, .tup cs, _, _, h, hx => by
    simp only [sub] at h
    split at h
    · rename_i cs1 h1
      cases h
      cases hx with
      | tup _ _ cs' hv => exact .tup _ _ cs' (subL_V hσ hk h1 hv)
    · cases h
theorem subL_V (hσ : SigOk σ φ im') (hk : kp = true → Im.le im im') : ∀ {d : Nat} {xs ys : List AV} {vs : List Value}, subL kp σ ids n d xs = some ys → VL im φ xs vs → VL im' (renPhi ids n φ) ys vs
  | 0, _, _, _, h, _ => by simp [subL] at h
  | d + 1, [], _, _, h, hx => by simp only [subL] at h; cases h; cases hx; exact .nil _
  | d + 1, x :: xs, _, _, h, hx => by
    simp only [subL] at h
    split at h
    · rename_i y ys h1 h2
      cases h
      cases hx with
      | cons _ _ v _ vs hv hvs => exact .cons _ _ _ _ _ (sub_V hσ hk h1 hv) (subL_V hσ hk h2 hvs)
    · cases h
end

theorem subL_length : ∀ {d : Nat} {xs ys : List AV}, subL kp σ ids n d xs = some ys → ys.length = xs.length
  | 0, _, _, h => by simp [subL] at h
  | d + 1, [], _, h => by simp only [subL] at h; cases h; rfl
  | d + 1, x :: xs, _, h => by
    simp only [subL] at h
    split at h
    · rename_i y ys h1 h2
      cases h
      simp [subL_length h2]
    · cases h
end

theorem renPhi_nil (n : Nat) (φ : Phi) : renPhi [] n φ = fun _ => none := by
  funext j
  unfold renPhi
  split <;> rfl

noncomputable def pb (p : Prop) : Bool := @decide p (Classical.propDecidable p)
theorem pb_is {p : Prop} : pb p = true ↔ p := by unfold pb; exact @decide_eq_true_iff p (Classical.propDecidable p)
theorem pb_of {p : Prop} (h : p) : pb p = true := pb_is.2 h

structure BOk where
  blk : ABlk
  ok : Bool

/-- How a block's cells are told: spelled out; as they are; as given. -/
inductive How where
  | lit | flat
  | giv (Y : List AV)

/-- Cells and what they are under new numbers, one by one. -/
def SubP (kp : Bool) (σ : List (Nat × List AV)) (ids : List Nat) (n : Nat) (X Y : List AV) : Prop :=
  Y.length = X.length ∧ ∀ (j : Nat) (x y : AV), X[j]? = some x → Y[j]? = some y → (x = y ∧ (bif kp then x.noOwn else x.scal) = true) ∨ sub kp σ ids n 4096 x = some y

noncomputable def subBlk (kp : Bool) (σ : List (Nat × List AV)) (ids : List Nat) (n : Nat) (fl : How) (b : ABlk) : Option BOk :=
  match fl with
  | .flat => some ⟨b, b.cells.all (fun x => bif kp then x.noOwn else x.scal)⟩
  | .giv Y => some ⟨⟨Y, b.ety⟩, pb (SubP kp σ ids n b.cells Y)⟩
  | .lit => match subL kp σ ids n 4096 b.cells with
    | some cs => some ⟨⟨cs, b.ety⟩, true⟩
    | none => none

theorem subBlk_V {kp : Bool} {σ : List (Nat × List AV)} {ids : List Nat} {n : Nat} {φ : Phi} {im im' : Im} (hσ : SigOk σ φ im') (hk : kp = true → Im.le im im') {fl : How} {b : ABlk} {k : BOk} (h : subBlk kp σ ids n fl b = some k) (hok : k.ok = true) :
    k.blk.ety = b.ety ∧ k.blk.cells.length = b.cells.length ∧ ∀ vs, VL im φ b.cells vs → VL im' (renPhi ids n φ) k.blk.cells vs := by
  unfold subBlk at h
  cases fl with
  | flat =>
    cases h
    refine ⟨rfl, rfl, fun vs hv => ?_⟩
    cases kp with
    | true => exact (noOwns_V hv hok).mono (Phi.none_le _) (hk rfl)
    | false => exact scals_V hv hok
  | giv Y =>
    cases h
    have hp : SubP kp σ ids n b.cells Y := pb_is.1 hok
    refine ⟨rfl, hp.1, fun vs hv => VL.mk _ _ (by have h1 := hp.1; have h2 := hv.length; dsimp only; omega) fun j y v hy hvj => ?_⟩
    have hj : j < b.cells.length := by
      have := (List.getElem?_eq_some_iff.1 hy).1
      have h1 := hp.1
      dsimp only at this
      omega
    obtain ⟨v', g1, g2⟩ := hv.get j _ (List.getElem?_eq_getElem hj)
    rw [hvj] at g1
    cases g1
    rcases hp.2 j _ y (List.getElem?_eq_getElem hj) hy with ⟨e, hn⟩ | hs
    · rw [← e]
      cases kp with
      | true => exact (noOwn_V g2 hn).mono (Phi.none_le _) (hk rfl)
      | false => exact scal_V g2 hn
    · exact sub_V hσ hk hs g2
  | lit =>
    dsimp only at h
    split at h
    · rename_i cs hcs
      cases h
      exact ⟨rfl, subL_length hcs, fun vs hv => subL_V hσ hk hcs hv⟩
    · cases h

/-! ### Freezing -/
structure Frz where
  heap : AHeap
  sig : List (Nat × List AV)
  ok : Bool

noncomputable def frz : List (Nat × How) → AHeap → List (Nat × List AV) → Option Frz
  | [], h, σ => some ⟨h, σ, true⟩
  | p :: rest, h, σ => match h p.1 with
    | some b => match subBlk true σ [] 0 p.2 b with
      | some k => match frz rest (upd h p.1 none) ((p.1, k.blk.cells) :: σ) with
        | some r => some ⟨r.heap, r.sig, k.ok && r.ok⟩
        | none => none
      | none => none
    | none => none

theorem freeze1 {P : Program} {base : Nat} {φ : Phi} {im : Im} {h : AHeap} {w : World} (H : HRep P base φ im h w) {i : Nat} {k : ABlk} (hi : h i = some k) {cells : List AV} (hlen : cells.length = k.cells.length) (hc : ∀ vs, VL im φ k.cells vs → VL im (fun _ => none) cells vs) :
    ∃ im1, Im.le im im1 ∧ HRep P base φ im1 (upd h i none) w ∧ ∀ (im0 : Im) (off : Nat) (v : Value), (∀ len, V im0 φ (.slc i off len) v → V im1 (fun _ => none) (.snap (cells.drop off) len) v) ∧ (V im0 φ (.ptr i off) v → V im1 (fun _ => none) (.sptr cells off) v) := by
  rcases H.own i k hi with ⟨a1, a2⟩ | ⟨l, cs, a1, a2, a3, a4, a5, a6, a7⟩
  · refine ⟨im, Im.le_refl _, H.drop i, fun im0 off v => ⟨fun len hv => ?_, fun hv => ?_⟩⟩
    · cases hv with
      | slc _ _ _ _ _ l hl => rw [a1] at hl; cases hl
      | slc0 => exact .snape _ _ _ _
    · cases hv with
      | ptr _ _ _ l hl => rw [a1] at hl; cases hl
  · have hle : Im.le im (upd im l.blk (some cs)) := fun b c e => by
      rw [upd_other]
      · exact e
      · intro e'; subst e'; rw [a4] at e; cases e
    have hcv := (hc _ a7).mono (Phi.le_refl _) hle
    refine ⟨upd im l.blk (some cs), hle, ⟨fun b c e => ?_, fun j k' e => ?_, fun j1 j2 k1 k2 l1 l2 e1 e2 e3 e4 e5 => ?_⟩, fun im0 off v => ⟨fun len hv => ?_, fun hv => ?_⟩⟩
    · by_cases hb : b = l.blk
      · subst hb
        rw [upd_same] at e
        cases e
        exact ⟨_, _, a2⟩
      · rw [upd_other _ _ _ hb] at e
        exact H.imh b c e
    · have hj : j ≠ i := fun e' => by subst e'; rw [upd_same] at e; cases e
      rw [upd_other _ _ _ hj] at e
      rcases H.own j k' e with b | ⟨l', cs', b1, b2, b3, b4, b5, b6, b7⟩
      · exact .inl b
      · refine .inr ⟨l', cs', b1, b2, b3, ?_, b5, b6, b7.mono (Phi.le_refl _) hle⟩
        rw [upd_other]
        · exact b4
        · intro e'; exact hj (H.apart j i k' k l' l e hi b1 a1 e')
    · have h1 : j1 ≠ i := fun e' => by subst e'; rw [upd_same] at e1; cases e1
      have h2 : j2 ≠ i := fun e' => by subst e'; rw [upd_same] at e2; cases e2
      rw [upd_other _ _ _ h1] at e1
      rw [upd_other _ _ _ h2] at e2
      exact H.apart j1 j2 k1 k2 l1 l2 e1 e2 e3 e4 e5
    · cases hv with
      | slc0 => exact .snape _ _ _ _
      | slc _ _ _ _ cap l' hl hle' hcap =>
        rw [a1] at hl
        cases hl
        refine .snap _ _ _ l.blk off cap cs ((cs.toList.take k.cells.length).drop off) (upd_same _ _ _) ?_ (hcv.drop off) hle'
        rw [List.length_drop, hlen, List.drop_take]
    · cases hv with
      | ptr _ _ _ l' hl =>
        rw [a1] at hl
        cases hl
        have := V.sptr (im := upd im l.blk (some cs)) (fun _ => none) cells off l.blk 0 cs (cs.toList.take k.cells.length) (upd_same _ _ _) (by rw [List.drop_zero, hlen]) hcv
        rwa [Nat.zero_add] at this

theorem frz_sound {P : Program} {base : Nat} {φ : Phi} {w : World} : ∀ {l : List (Nat × How)} {im : Im} {h : AHeap} {σ : List (Nat × List AV)} {r : Frz}, frz l h σ = some r → r.ok = true → HRep P base φ im h w → SigOk σ φ im →
    ∃ im', Im.le im im' ∧ HRep P base φ im' r.heap w ∧ SigOk r.sig φ im'
  | [], im, h, σ, r, hr, hok, H, hσ => by cases hr; exact ⟨im, Im.le_refl _, H, hσ⟩
  | p :: rest, im, h, σ, r, hr, hok, H, hσ => by
    simp only [frz] at hr
    split at hr
    · rename_i b hb
      split at hr
      · rename_i k hk
        split at hr
        · rename_i r' hr'
          cases hr
          simp only [Bool.and_eq_true] at hok
          obtain ⟨g1, g2, g3⟩ := subBlk_V (im := im) hσ (fun _ => Im.le_refl _) hk hok.1
          rw [renPhi_nil] at g3
          obtain ⟨im1, i1, i2, i3⟩ := freeze1 H hb g2 g3
          have hσ1 : SigOk ((p.1, k.blk.cells) :: σ) φ im1 := by
            intro i cs e im0 off v
            simp only [look] at e
            cases hpi : Nat.beq p.1 i with
            | true =>
              rw [hpi] at e
              have := Nat.eq_of_beq_eq_true hpi
              subst this
              cases e
              exact i3 im0 off v
            | false =>
              rw [hpi] at e
              exact hσ.mono i1 i cs e im0 off v
          obtain ⟨im2, j1, j2, j3⟩ := frz_sound hr' hok.2 i2 hσ1
          exact ⟨im2, Im.le_trans i1 j1, j2, j3⟩
        · cases hr
      · cases hr
    · cases hr

/-! ### What is kept -/
structure BsOk where
  bs : List ABlk
  ok : Bool

noncomputable def keeps (kp : Bool) (σ : List (Nat × List AV)) (ids : List Nat) (n : Nat) (h : AHeap) : List (Nat × How) → Option BsOk
  | [] => some ⟨[], true⟩
  | p :: ps => match h p.1 with
    | some b => match subBlk kp σ ids n p.2 b, keeps kp σ ids n h ps with
      | some k, some r => some ⟨k.blk :: r.bs, k.ok && r.ok⟩
      | _, _ => none
    | none => none

theorem keeps_is {kp : Bool} {σ : List (Nat × List AV)} {ids : List Nat} {n : Nat} {h : AHeap} {φ : Phi} {im im' : Im} (hσ : SigOk σ φ im') (hk : kp = true → Im.le im im') : ∀ {ps : List (Nat × How)} {r : BsOk}, keeps kp σ ids n h ps = some r → r.ok = true →
    r.bs.length = ps.length ∧ ∀ (p : Nat) (k : ABlk), r.bs[p]? = some k → ∃ i b, (ps.map (·.1))[p]? = some i ∧ h i = some b ∧ k.ety = b.ety ∧ k.cells.length = b.cells.length ∧ ∀ vs, VL im φ b.cells vs → VL im' (renPhi ids n φ) k.cells vs
  | [], r, hr, _ => by cases hr; exact ⟨rfl, fun p k h => by simp at h⟩
  | q :: ps, r, hr, hok => by
    simp only [keeps] at hr
    split at hr
    · rename_i b hb
      split at hr
      · rename_i k r' h1 h2
        cases hr
        simp only [Bool.and_eq_true] at hok
        obtain ⟨g1, g2⟩ := keeps_is hσ hk h2 hok.2
        refine ⟨by simp [g1], fun p k' hp => ?_⟩
        cases p with
        | zero =>
          simp only [List.getElem?_cons_zero, Option.some.injEq] at hp
          subst hp
          obtain ⟨e1, e2, e3⟩ := subBlk_V (im := im) hσ hk h1 hok.1
          exact ⟨q.1, b, by simp, hb, e1, e2, e3⟩
        | succ p =>
          obtain ⟨i', b', q1, q2⟩ := g2 p k' (by simpa using hp)
          exact ⟨i', b', by simpa using q1, q2⟩
      · cases hr
    · cases hr

theorem HRep.keep {P : Program} {base : Nat} {φ : Phi} {im : Im} {h : AHeap} {w : World} (H : HRep P base φ im h w) {ids : List Nat} {n : Nat} (hn : nodupB ids = true) {bs : List ABlk} {im' : Im}
    (hbs : ∀ (p : Nat) (k : ABlk), bs[p]? = some k → ∃ i b, ids[p]? = some i ∧ h i = some b ∧ k.ety = b.ety ∧ k.cells.length = b.cells.length ∧ ∀ vs, VL im φ b.cells vs → VL im' (renPhi ids n φ) k.cells vs)
    (him' : ∀ b cs, im' b = some cs → im b = some cs) : HRep P base (renPhi ids n φ) im' (heapL n bs) w := by
  have ph : ∀ {j : Nat} {k : ABlk}, heapL n bs j = some k → ∃ i b, ids[j - n]? = some i ∧ h i = some b ∧ k.ety = b.ety ∧ k.cells.length = b.cells.length ∧ (∀ vs, VL im φ b.cells vs → VL im' (renPhi ids n φ) k.cells vs) ∧ renPhi ids n φ j = φ i := by
    intro j k e
    obtain ⟨h1, h2⟩ := heapL_is e
    obtain ⟨i, b, q1, q2, q3, q4, q5⟩ := hbs _ _ h2
    refine ⟨i, b, q1, q2, q3, q4, q5, ?_⟩
    unfold renPhi
    rw [if_pos h1, q1]
    rfl
  refine ⟨fun b cs e => H.imh b cs (him' b cs e), ?_, ?_⟩
  · intro j k e
    obtain ⟨i, b, q1, q2, q3, q4, q5, q6⟩ := ph e
    rcases H.own i b q2 with ⟨a1, a2⟩ | ⟨l, cs, a1, a2, a3, a4, a5, a6, a7⟩
    · left
      refine ⟨by rw [q6]; exact a1, ?_⟩
      rw [a2] at q4
      exact List.eq_nil_of_length_eq_zero q4
    · right
      have hL := q5 _ a7
      refine ⟨l, cs, by rw [q6]; exact a1, by rw [q3]; exact a2, a3, ?_, a5, by rw [q3]; exact a6, by rw [q4]; exact hL⟩
      cases hi : im' l.blk with
      | none => rfl
      | some c => rw [him' _ _ hi] at a4; cases a4
  · intro j1 j2 k1 k2 l1 l2 e1 e2 p1 p2 hl
    obtain ⟨i1, b1, q1, q2, q3, q4, q5, q6⟩ := ph e1
    obtain ⟨i2, b2, r1, r2, r3, r4, r5, r6⟩ := ph e2
    rw [q6] at p1
    rw [r6] at p2
    have := H.apart i1 i2 b1 b2 l1 l2 q2 r2 p1 p2 hl
    subst this
    have := nodupB_is hn q1 r1
    have := (heapL_is e1).1
    have := (heapL_is e2).1
    omega

/-- What is done with a block: it is kept (spelled out, as it is, as given; what else it leads to), or frozen. -/
inductive Md where
  | lit | flat
  | giv (Y : List AV) (more : List Nat)
  | frz | frzFlat
  | frzGiv (Y : List AV) (more : List Nat)

def Md.how : Md → How
  | .lit | .frz => .lit
  | .flat | .frzFlat => .flat
  | .giv Y _ | .frzGiv Y _ => .giv Y
def Md.kept : Md → Bool
  | .lit | .flat | .giv _ _ => true
  | _ => false
def Md.next (m : Md) (b : ABlk) : List Nat :=
  match m with
  | .lit | .frz => idsL 4096 b.cells
  | .flat | .frzFlat => []
  | .giv _ l | .frzGiv _ l => l

/-- The blocks in the order in which they are come upon, each with what is done with it. -/
def reachM (h : AHeap) : Nat → List Nat → List Md → List (Nat × Md) → List (Nat × Md)
  | 0, _, _, seen => seen
  | _ + 1, [], _, seen => seen
  | d + 1, i :: todo, ms, seen => bif seen.any (fun p => Nat.beq p.1 i) then reachM h d todo ms seen else match h i with
    | some b => reachM h d ((ms.headD .lit).next b ++ todo) (ms.drop 1) (seen ++ [(i, ms.headD .lit)])
    | none => reachM h d todo (ms.drop 1) (seen ++ [(i, ms.headD .lit)])

def flB (p : Nat × Md) : Nat × How := (p.1, p.2.how)
def keepIds (ps : List (Nat × Md)) : List (Nat × How) := (ps.filter (fun p => p.2.kept)).map flB
def frozIds (ps : List (Nat × Md)) : List (Nat × How) := ((ps.filter (fun p => !p.2.kept)).map flB).reverse

noncomputable def viewK (C : Ctx) (nt : Nat) (qs : List Nat) (fuel : Nat) (c : Code) (s : St) (ts : List Nat) (ms : List Md) : Option View :=
  match evCode C nt qs fuel c s with
  | some (e, s1) => match getAll s1.env ts with
    | some ys =>
      let ps := reachM s1.heap 4096 (idsL 4096 ys) ms []
      let ks := keepIds ps
      let ids := ks.map (·.1)
      match frz (frozIds ps) s1.heap [] with
      | some r => match subL true r.sig ids 0 4096 ys, keeps true r.sig ids 0 r.heap ks with
        | some xs, some b => bif nodupB ids then some ⟨e, xs, b.bs, r.ok && (b.ok && s1.ok)⟩ else none
        | _, _ => none
      | none => none
    | none => none
  | none => none

section
variable {C : Ctx} {w0 : World} {nt : Nat} {qs : List Nat} {fuel : Nat}

theorem envZ_K {env : AEnv} {a : Act} {φ φ' : Phi} {im im' : Im} (henv : ∀ t x, env t = some x → ∃ v, a.tmps[t]? = some v ∧ V im φ x v) {σ : List (Nat × List AV)} {ids : List Nat} {n : Nat} (hσ : SigOk σ φ im') (hk : Im.le im im') (hφ : φ' = renPhi ids n φ) : ∀ {ts : List Nat} {ys xs : List AV} {d : Nat}, getAll env ts = some ys → subL true σ ids n d ys = some xs →
    ∀ t x, envZ ts xs t = some x → ∃ v, a.tmps[t]? = some v ∧ V im' φ' x v
  | [], ys, xs, d, _, _, t, x, e => by cases xs <;> cases e
  | u :: us, ys, xs, 0, _, h2, t, x, e => by simp [subL] at h2
  | u :: us, ys, xs, d + 1, h1, h2, t, x, e => by
    simp only [getAll] at h1
    split at h1
    · rename_i y ys' hy hys
      cases h1
      simp only [subL] at h2
      split at h2
      · rename_i z zs hz hzs
        cases h2
        simp only [envZ] at e
        by_cases htu : t = u
        · subst htu
          rw [upd_same] at e
          cases e
          obtain ⟨v, g1, g2⟩ := henv t y hy
          exact ⟨v, g1, by rw [hφ]; exact sub_V hσ (fun _ => hk) hz g2⟩
        · rw [upd_other _ _ _ htu] at e
          exact envZ_K henv hσ hk hφ hys hzs t x e
      · cases h2
    · cases h1

theorem goes_viewK (hO : OrcOK C.P C.orc) (hm : C.P.follows .mixedOrders = true) {c : Code} {s : St} {ts : List Nat} {ms : List Md} {v : View} (h : viewK C nt qs fuel c s ts ms = some v) (hok : v.ok = true) (dec : List Bool) : Goes C w0 nt c s v.ex (mk ts v.xs v.bs dec) := by
  unfold viewK at h
  split at h
  · rename_i e s1 he
    split at h
    · rename_i ys hys
      dsimp only at h
      split at h
      · rename_i r hr
        split at h
        · rename_i xs b hxs hbs
          cases hn : nodupB ((keepIds (reachM s1.heap 4096 (idsL 4096 ys) ms [])).map (·.1)) with
          | false => rw [hn] at h; cases h
          | true =>
            rw [hn] at h
            cases h
            simp only [Bool.and_eq_true] at hok
            generalize hks : keepIds (reachM s1.heap 4096 (idsL 4096 ys) ms []) = ks at *
            generalize hids : ks.map (·.1) = ids at *
            obtain ⟨_, hgo⟩ := evCode_sound (w0 := w0) hO hm c s s1 e he hok.2.2
            refine ⟨fun {a w} R => Go.wp_mono (hgo.of R) fun x a' w' ⟨hx, hR⟩ => ⟨hx, ?_⟩⟩
            obtain ⟨⟨φ, im, RF, fφ⟩, fh⟩ := hR
            obtain ⟨im1, i1, i2, i3⟩ := frz_sound hr hok.1 RF.hrep (SigOk.nil _ _)
            obtain ⟨hlen, hk⟩ := keeps_is (ids := ids) (n := 0) (im := im1) (im' := im1) i3 (fun _ => Im.le_refl _) hbs hok.2.1
            rw [hids] at hk
            have hl2 : b.bs.length = ids.length := by rw [hlen, ← hids]; simp
            refine ⟨⟨renPhi ids 0 φ, im1, ⟨i2.keep hn hk (fun b cs e => e), envZ_K RF.env i3 i1 rfl hys hxs, RF.size, RF.defers, RF.below⟩, fun i hi => ?_⟩, fun i hi => ?_⟩
            · have hi' : b.bs.length ≤ i := hi
              unfold renPhi
              rw [if_pos (Nat.zero_le _), List.getElem?_eq_none (by omega)]
              rfl
            · have hi' : b.bs.length ≤ i := hi
              show heapL 0 b.bs i = none
              cases hp : heapL 0 b.bs i with
              | none => rfl
              | some k =>
                have := (heapL_is hp).2
                rw [List.getElem?_eq_none (by omega)] at this
                cases this
        · cases h
      · cases h
    · cases h
  · cases h
end

/-! ### A function's end -/
noncomputable def finK (P : Program) (s : St) (rs : List ResultVar) (n : Nat) (ms : List Md) : Option HOut :=
  match resVars P s rs with
  | some (ys, c1) =>
    let ks := (reachM s.heap 4096 (idsL 4096 ys) ms []).map flB
    let ids := ks.map (·.1)
    match subL false [] ids n 4096 ys, keeps false [] ids n s.heap ks with
    | some zs, some b => bif nodupB ids && Nat.ble ids.length 64 then some ⟨one zs, b.bs, c1 && (b.ok && s.ok)⟩ else none
    | _, _ => none
  | none => none

section
variable {C : Ctx} {nt : Nat} {qs : List Nat} {fuel : Nat}

theorem con_goesK {f : FuncId} {fn : Func} {c : Code} (hf : C.P.funcs[f]? = some fn) (hb : fn.body = some c) (hname : (fn.name == "runtime.NumGoroutine") = false) (hnt : fn.ntmps = nt)
    {xs : List AV} (hl : xs.length ≤ nt) {dec : List Bool} {e : Ex} {s : St} (hgo : ∀ w0, Goes C w0 nt c (St0 xs dec) e s) (hre : e = .ret ∨ e = .normal) {n : Nat} {ms : List Md} {r : HOut} (hs : finK C.P s fn.results.toList n ms = some r) (hok : r.ok = true) : Con C.P f xs n r.val r.blks := by
  intro im w args him hv
  refine ⟨_, _, run_callFunc hf hb hname args w, .inr ⟨f, args, rfl, ?_⟩⟩
  have hstart := rel_start (C := C) him hv hl dec
  unfold finK at hs
  split at hs
  · rename_i ys c1 hys
    dsimp only at hs
    split at hs
    · rename_i zs b hzs hbs
      generalize hks : (reachM s.heap 4096 (idsL 4096 ys) ms []).map flB = ks at *
      generalize hids : ks.map (·.1) = ids at *
      cases hg : (nodupB ids && Nat.ble ids.length 64) with
      | false => rw [hg] at hs; cases hs
      | true =>
        rw [hg] at hs
        cases hs
        simp only [Bool.and_eq_true, Nat.ble_eq] at hg
        simp only [Bool.and_eq_true] at hok
        obtain ⟨hc1, hbok, hsok⟩ := hok
        refine calls_of_wp hf hb ?_
        rw [hnt]
        refine Go.wp_mono ((hgo w).of hstart) fun x a' w' ⟨hx, hR⟩ => ?_
        obtain ⟨⟨φ, im', RF, _⟩, _⟩ := hR
        obtain ⟨vs, g1, g2⟩ := resVars_sound RF hys hc1
        have g3 : VL (fun _ => none) (renPhi ids n φ) zs vs := subL_V (SigOk.nil _ _) (fun h => by cases h) hzs g2
        obtain ⟨hlen, hk⟩ := keeps_is (ids := ids) (n := n) (im := im') (im' := fun _ => none) (SigOk.nil φ _) (fun h => by cases h) hbs hbok
        rw [hids] at hk
        have hres : (results fn a'.tmps).run C.P w' = .ok (if h : vs.toArray.size = 1 then vs.toArray[0] else .tuple vs.toArray) w' := by
          have e : results fn a'.tmps = (do
            let vs ← fn.results.mapM (readRes a')
            return if h : vs.size = 1 then vs[0] else .tuple vs) := by
            unfold results
            congr 1
          rw [e, Array.mapM_eq_mapM_toList]
          simp only [Sem.run_bind, bind_map_left]
          rw [g1]
          rfl
        have hpost : ∃ v, (if h : vs.toArray.size = 1 then vs.toArray[0] else .tuple vs.toArray : Value) = v ∧ Leaves C.P w n (one zs) b.bs v w' := by
          refine ⟨_, rfl, renPhi ids n φ, fun _ => none, RF.below, fun i hi => ?_, fun b cs hb => (by cases hb), RF.hrep.keep hg.1 hk (fun b cs hb => by cases hb), one_sound (by simpa using g3)⟩
          unfold renPhi at hi
          split at hi
          · rename_i hni
            refine ⟨hni, ?_⟩
            cases hq : ids[i - n]? with
            | none => rw [hq] at hi; exact absurd rfl hi
            | some k =>
              have := (List.getElem?_eq_some_iff.1 hq).1
              omega
          · exact absurd rfl hi
        obtain ⟨v, hv1, hv2⟩ := hpost
        rcases hre with rfl | rfl
        · subst hx
          exact ⟨RF.defers, v, by rw [hres, hv1], v, rfl, hv2⟩
        · subst hx
          exact ⟨RF.defers, v, by rw [hres, hv1], v, rfl, hv2⟩
    · cases hs
  · cases hs
end
end Go.Eng
/- Leaves, part 1: contracts of the float functions that have no text: the bits of a float, a float of bits. Condition: a float whose bits are asked for is not NaN. -/
namespace Go.Eng
open Go Go.RowKit

theorem con_extern {P : Program} {f : FuncId} {fn : Func} {e : Array Value → Sem Value} (hf : P.funcs[f]? = some fn) (hb : fn.body = none) (hname : (fn.name == "runtime.NumGoroutine") = false) (hn : Extern.findNext fn = none) (he : Extern.find fn = some e)
    {xs : List AV} {r : AV} (h : ∀ (im : Im) (w : World) (args : Array Value), VL im (fun _ => none) xs args.toList → ∃ v, (e args).run P w = .ok v w ∧ V (fun _ => none) (fun _ => none) r v) (n : Nat) : Con P f xs n r [] := by
  intro im w args him hv
  obtain ⟨v, h1, h2⟩ := h im w args hv
  refine ⟨.value v, w, ?_, .inl ⟨v, rfl, fun _ => none, fun _ => none, Below.refl _ _, fun i hi => absurd rfl hi, fun b cs hb => (by cases hb), ⟨fun b cs e => (by cases e), fun i k e => (by cases e), fun i j k k' l l' e => (by cases e)⟩, h2⟩⟩
  have hn' : ¬ fn.name = "runtime.NumGoroutine" := by simpa using hname
  unfold callFunc
  simp [program, Sem.run, hf, hb, hn', hn, he, mark, h1]

theorem VL_one {im : Im} {φ : Phi} {x : AV} {args : Array Value} (h : VL im φ [x] args.toList) : ∃ v, args = #[v] ∧ V im φ x v := by
  generalize hl : args.toList = l at h
  cases h with
  | cons _ _ v _ vs h1 h2 =>
    cases h2
    exact ⟨v, by rw [← Array.toList_inj]; simpa using hl, h1⟩

namespace Try
open Go.Proofs.Try

theorem con_bits (x : Nat) (hx : nanB x = false) (n : Nat) : Con prog 128 [.flt x] n (.int .u64 x) [] := by
  refine con_extern (fn := f128) (e := Extern.MathFloatBits.float64bits) (by kernel_rfl) (by kernel_rfl) (by kernel_rfl) (by kernel_rfl) (by kernel_rfl) ?_ n
  intro im w args hv
  obtain ⟨v, rfl, h⟩ := VL_one hv
  cases h with
  | flt _ b hb =>
    rw [nanB_canon] at hx
    rw [canon_of_not hx]
    exact ⟨_, rfl, .int _ _ _⟩

theorem con_frombits (m : Int) (h0 : 0 ≤ m) (h1 : m < 18446744073709551616) (n : Nat) : Con prog 127 [.int .u64 m] n (.flt (canon m.toNat)) [] := by
  refine con_extern (fn := f127) (e := Extern.MathFloatBits.float64frombits) (by kernel_rfl) (by kernel_rfl) (by kernel_rfl) (by kernel_rfl) (by kernel_rfl) ?_ n
  intro im w args hv
  obtain ⟨v, rfl, h⟩ := VL_one hv
  cases h
  exact ⟨_, rfl, .flt _ _ (by omega)⟩

end Try
end Go.Eng
/- Leaves, part 2: oracles out of contracts that are proved. No condition. -/
namespace Go.Eng
open Go Go.RowKit

structure Entry where
  f : FuncId
  ans : List AV → Nat → Option ORes

def EntryOK (P : Program) (e : Entry) : Prop := ∀ xs n r, e.ans xs n = some r → r.ok = true → Con P e.f xs n r.val r.blks

def orcL : List Entry → Orc
  | [], _, _, _ => none
  | e :: es, f, xs, n => bif Nat.beq f e.f then e.ans xs n else orcL es f xs n

theorem orcL_ok {P : Program} : ∀ {es : List Entry}, (∀ e ∈ es, EntryOK P e) → OrcOK P (orcL es)
  | [], _ => fun f xs n r h => by cases h
  | e :: es, hes => fun f xs n r h hok => by
    simp only [orcL] at h
    cases hb : Nat.beq f e.f with
    | true =>
      rw [hb] at h
      have := Nat.eq_of_beq_eq_true hb
      subst this
      exact hes e (by simp) xs n r h hok
    | false =>
      rw [hb] at h
      exact orcL_ok (fun e' he' => hes e' (by simp [he'])) f xs n r h hok

/-- Calls by the text, but where there is an entry. -/
def ctx (P : Program) (es : List Entry) (d : Nat) : Ctx := ctx0 P (orcI P (fun _ => true) (fun _ => []) (orcL es) 64 d) fun _ => true

theorem ctx_ok {P : Program} (hm : P.follows .mixedOrders = true) {es : List Entry} (hes : ∀ e ∈ es, EntryOK P e) (d : Nat) : OrcOK (ctx P es d).P (ctx P es d).orc := orcI_ok hm _ _ _ _ (orcL_ok hes) d

/-- A function, evaluated by its number. -/
def evF (C : Ctx) (qs : List Nat) (f : FuncId) (xs : List AV) (dec : List Bool) (n : Nat) : Option HOut :=
  match C.P.funcs[f]? with
  | some fn => match fn.body with
    | some c => bif nameOk fn.name && Nat.ble xs.length fn.ntmps then evFnH C fn.ntmps qs 64 c fn.results.toList xs dec n else none
    | none => none
  | none => none

theorem con_evF {C : Ctx} (hO : OrcOK C.P C.orc) (hm : C.P.follows .mixedOrders = true) {qs : List Nat} {f : FuncId} {xs : List AV} {dec : List Bool} {n : Nat} {r : HOut} (h : evF C qs f xs dec n = some r) (hok : r.ok = true) : Con C.P f xs n r.val r.blks := by
  unfold evF at h
  split at h
  · rename_i fn hfn
    split at h
    · rename_i c hc
      cases hg : (nameOk fn.name && Nat.ble xs.length fn.ntmps) with
      | false => rw [hg] at h; cases h
      | true =>
        rw [hg] at h
        simp only [cond_true] at h
        simp only [Bool.and_eq_true, Nat.ble_eq] at hg
        exact con_ofH hO hm hfn hc (by simpa [nameOk] using hg.1) rfl hg.2 h hok
    · cases h
  · cases h

namespace Try
open Go.Proofs.Try

theorem mixed : prog.follows .mixedOrders = true := by kernel_rfl

def eBits : Entry := ⟨128, fun xs _ => match xs with
  | [.flt x] => some ⟨.int .u64 x, [], !nanB x⟩
  | _ => none⟩
def u64B : Int → Bool
  | .ofNat k => Nat.blt k 18446744073709551616
  | _ => false
theorem u64B_is {m : Int} (h : u64B m = true) : 0 ≤ m ∧ m < 18446744073709551616 := by
  cases m with
  | ofNat k => simp only [u64B, Nat.blt_eq] at h; exact ⟨Int.natCast_nonneg k, by have : (k : Int) < 18446744073709551616 := by omega
                                                                                  exact this⟩
  | negSucc k => cases h
theorem u64B_of {m : Int} (h : 0 ≤ m ∧ m < 18446744073709551616) : u64B m = true := by
  cases m with
  | ofNat k =>
    simp only [u64B, Nat.blt_eq]
    have : (k : Int) < 18446744073709551616 := h.2
    omega
  | negSucc k => omega
def eFrom : Entry := ⟨127, fun xs _ => match xs with
  | [.int k m] => bif decide (k = .u64) then some ⟨.flt (canon m.toNat), [], u64B m⟩ else none
  | _ => none⟩

theorem eBits_ok : EntryOK prog eBits := by
  intro xs n r h hok
  simp only [eBits] at h
  split at h
  · cases h
    exact con_bits _ (by simpa using hok) n
  · cases h
theorem eFrom_ok : EntryOK prog eFrom := by
  intro xs n r h hok
  simp only [eFrom] at h
  split at h
  · rename_i k m
    cases hk : decide (k = .u64) with
    | false => rw [hk] at h; cases h
    | true =>
      rw [hk] at h
      have := of_decide_eq_true hk
      subst this
      cases h
      have := u64B_is hok
      exact con_frombits m this.1 this.2 n
  · cases h

def es0 : List Entry := [eBits, eFrom]
theorem es0_ok : ∀ e ∈ es0, EntryOK prog e := by
  intro e he
  simp only [es0, List.mem_cons, List.not_mem_nil, or_false] at he
  rcases he with rfl | rfl
  · exact eBits_ok
  · exact eFrom_ok
end Try
end Go.Eng
/- Leaves, part 3: the next float above, below. No condition. -/
namespace Go.Eng
open Go Go.RowKit

def infB : Nat := 9218868437227405312
def ninfB : Nat := 18442240474082181120

def fup (x : Nat) : Nat := bif fne x x then qnan else bif feq x infB then x else bif feq x 0 then 1 else
  bif fgt infB x == fgt x 0 then canon (IntKind.u64.wrap ((x : Int) + 1)).toNat else canon (IntKind.u64.wrap ((x : Int) - 1)).toNat
def fdown (x : Nat) : Nat := bif fne x x then qnan else bif feq x ninfB then x else bif feq x 0 then 9223372036854775809 else
  bif fgt ninfB x == fgt x 0 then canon (IntKind.u64.wrap ((x : Int) + 1)).toNat else canon (IntKind.u64.wrap ((x : Int) - 1)).toNat

theorem fne_self (x : Nat) : fne x x = nanB x := by
  unfold fne
  rw [← isNaN_read]
  unfold Ieee.Format.order
  cases h : Ieee.double.read x with
  | nan n f => simp [Ieee.Datum.order, Ieee.Datum.isNaN]
  | infinity n => cases n <;> simp [Ieee.Datum.order, Ieee.Datum.isNaN]
  | number n m p => simp [Ieee.Datum.order, Ieee.Datum.isNaN]

theorem wrap_u64 (m : Int) : 0 ≤ IntKind.u64.wrap m ∧ IntKind.u64.wrap m < 18446744073709551616 := by
  unfold IntKind.wrap
  simp [IntKind.bits, IntKind.signed]
  omega

namespace Try
open Go.Proofs.Try

theorem con_up (x n : Nat) : Con prog 160 [.flt x, .flt infB] n (.flt (fup x)) [] := by
  have O := ctx_ok mixed es0_ok 5
  unfold fup
  cases h1 : fne x x with
  | true => exact con_evF O mixed (qs := [12,17,22,28]) (dec := [true]) (r := ⟨.flt qnan, [], fne x x && true⟩) (by kernel_rfl) (by simp [h1])
  | false =>
    cases h2 : feq x infB with
    | true => exact con_evF O mixed (qs := [12,17,22,28]) (dec := [false,true]) (r := ⟨.flt x, [], feq x infB && (!fne x x && true)⟩) (by kernel_rfl) (by simp [h1, h2])
    | false =>
      cases h3 : feq x 0 with
      | true => exact con_evF O mixed (qs := [12,17,22,28]) (dec := [false,false,true]) (r := ⟨.flt 1, [], feq x 0 && (!feq x infB && (!fne x x && true))⟩) (by kernel_rfl) (by simp [h1, h2, h3])
      | false =>
        have hn : nanB x = false := by rw [← fne_self]; exact h1
        cases h4 : (fgt infB x == fgt x 0) with
        | true => exact con_evF O mixed (qs := [12,17,22,28]) (dec := [false,false,false,true]) (r := ⟨.flt (canon (IntKind.u64.wrap ((x : Int) + 1)).toNat), [], u64B (IntKind.u64.wrap ((x : Int) + 1)) && (!nanB x && ((fgt infB x == fgt x 0) && (!feq x 0 && (!feq x infB && (!fne x x && true)))))⟩) (by kernel_rfl) (by simp [h1, h2, h3, h4, hn, u64B_of (wrap_u64 _)])
        | false => exact con_evF O mixed (qs := [12,17,22,28]) (dec := [false,false,false,false]) (r := ⟨.flt (canon (IntKind.u64.wrap ((x : Int) - 1)).toNat), [], u64B (IntKind.u64.wrap ((x : Int) - 1)) && (!nanB x && (!(fgt infB x == fgt x 0) && (!feq x 0 && (!feq x infB && (!fne x x && true)))))⟩) (by kernel_rfl) (by simp [h1, h2, h3, h4, hn, u64B_of (wrap_u64 _)])

theorem con_down (x n : Nat) : Con prog 160 [.flt x, .flt ninfB] n (.flt (fdown x)) [] := by
  have O := ctx_ok mixed es0_ok 5
  unfold fdown
  cases h1 : fne x x with
  | true => exact con_evF O mixed (qs := [12,17,22,28]) (dec := [true]) (r := ⟨.flt qnan, [], fne x x && true⟩) (by kernel_rfl) (by simp [h1])
  | false =>
    cases h2 : feq x ninfB with
    | true => exact con_evF O mixed (qs := [12,17,22,28]) (dec := [false,true]) (r := ⟨.flt x, [], feq x ninfB && (!fne x x && true)⟩) (by kernel_rfl) (by simp [h1, h2])
    | false =>
      cases h3 : feq x 0 with
      | true => exact con_evF O mixed (qs := [12,17,22,28]) (dec := [false,false,true]) (r := ⟨.flt 9223372036854775809, [], feq x 0 && (!feq x ninfB && (!fne x x && true))⟩) (by kernel_rfl) (by simp [h1, h2, h3])
      | false =>
        have hn : nanB x = false := by rw [← fne_self]; exact h1
        cases h4 : (fgt ninfB x == fgt x 0) with
        | true => exact con_evF O mixed (qs := [12,17,22,28]) (dec := [false,false,false,true]) (r := ⟨.flt (canon (IntKind.u64.wrap ((x : Int) + 1)).toNat), [], u64B (IntKind.u64.wrap ((x : Int) + 1)) && (!nanB x && ((fgt ninfB x == fgt x 0) && (!feq x 0 && (!feq x ninfB && (!fne x x && true)))))⟩) (by kernel_rfl) (by simp [h1, h2, h3, h4, hn, u64B_of (wrap_u64 _)])
        | false => exact con_evF O mixed (qs := [12,17,22,28]) (dec := [false,false,false,false]) (r := ⟨.flt (canon (IntKind.u64.wrap ((x : Int) - 1)).toNat), [], u64B (IntKind.u64.wrap ((x : Int) - 1)) && (!nanB x && (!(fgt ninfB x == fgt x 0) && (!feq x 0 && (!feq x ninfB && (!fne x x && true)))))⟩) (by kernel_rfl) (by simp [h1, h2, h3, h4, hn, u64B_of (wrap_u64 _)])

def eNext : Entry := ⟨160, fun xs _ => match xs with
  | [.flt x, .flt y] => bif Nat.beq y infB then some ⟨.flt (fup x), [], true⟩ else bif Nat.beq y ninfB then some ⟨.flt (fdown x), [], true⟩ else none
  | _ => none⟩
theorem eNext_ok : EntryOK prog eNext := by
  intro xs n r h hok
  simp only [eNext] at h
  split at h
  · rename_i x y
    cases h1 : Nat.beq y infB with
    | true =>
      have := Nat.eq_of_beq_eq_true h1
      subst this
      rw [h1] at h
      cases h
      exact con_up x n
    | false =>
      rw [h1] at h
      simp only [cond_false] at h
      cases h2 : Nat.beq y ninfB with
      | true =>
        have := Nat.eq_of_beq_eq_true h2
        subst this
        rw [h2] at h
        cases h
        exact con_down x n
      | false => rw [h2] at h; cases h
  · cases h
end Try
end Go.Eng
/- Leaves, part 4: helpers to walk a function by pieces. Condition: the contracts that the evaluator leans on hold, the decisions are what the tests say. -/
namespace Go.Eng
open Go Go.RowKit

def codeOf (P : Program) (f : FuncId) : Code := match P.funcs[f]? with | some fn => fn.body.getD .skip | none => .skip
def ntOf (P : Program) (f : FuncId) : Nat := match P.funcs[f]? with | some fn => fn.ntmps | none => 0
def resOf (P : Program) (f : FuncId) : List ResultVar := match P.funcs[f]? with | some fn => fn.results.toList | none => []
def okF (P : Program) (f : FuncId) (k : Nat) : Bool := match P.funcs[f]? with | some fn => fn.body.isSome && nameOk fn.name && Nat.ble k fn.ntmps | none => false

section
variable {C : Ctx} {w0 : World} {nt : Nat} {qs : List Nat} {fuel : Nat}

theorem goes_dec {c : Code} {s s' : St} {e : Ex} (h : Goes C w0 nt c s e s') {s1 : St} (he : s1.env = s.env) (hh : s1.heap = s.heap) (hx : s1.nx = s.nx) : Goes C w0 nt c s1 e s' := by
  exact ⟨fun {_ _} R => h.of ⟨by have := R.rel; rw [he, hh, hx] at this; exact this, by have := R.fh; rw [hh, hx] at this; exact this⟩⟩

/-- A state told otherwise, with other decisions. -/
theorem goes_re {c : Code} {ts : List Nat} {xs : List AV} {bs : List ABlk} {dec dec' : List Bool} {s' : St} {e : Ex} (h : Goes C w0 nt c (mk ts xs bs dec) e s') : Goes C w0 nt c (mk ts xs bs dec') e s' :=
  ⟨fun {_ _} R => h.of ⟨R.rel, R.fh⟩⟩

/-- The end of a piece, told with other decisions. -/
theorem goes_out {c : Code} {ts : List Nat} {xs : List AV} {bs : List ABlk} {dec dec' : List Bool} {s : St} {e : Ex} (h : Goes C w0 nt c s e (mk ts xs bs dec)) : Goes C w0 nt c s e (mk ts xs bs dec') := by
  exact ⟨fun {_ _} R => Go.wp_mono (h.of R) fun x a' w' ⟨hx, hR⟩ => ⟨hx, ⟨hR.rel, hR.fh⟩⟩⟩

theorem seq_view (hO : OrcOK C.P C.orc) (hm : C.P.follows .mixedOrders = true) {c : Code} {s s2 : St} {e : Ex} (ts : List Nat) {xs : List AV} {bs : List ABlk} {ok : Bool} {dec : List Bool} (hc : isSeq c = true) (h : view C nt qs fuel (cL c) s ts = some ⟨.normal, xs, bs, ok⟩) (hok : ok = true)
    (h2 : Goes C w0 nt (cR c) (mk ts xs bs dec) e s2) : Goes C w0 nt c s e s2 :=
  goes_seq hc (goes_view hO hm h hok dec) h2

theorem con_goesF {f : FuncId} {xs : List AV} (h : okF C.P f xs.length = true) {dec : List Bool} {e : Ex} {s : St} (hgo : ∀ w0, Goes C w0 (ntOf C.P f) (codeOf C.P f) (St0 xs dec) e s) (hre : e = .ret ∨ e = .normal) {n : Nat} {r : HOut} (hs : finH C.P s (resOf C.P f) n = some r) (hok : r.ok = true) : Con C.P f xs n r.val r.blks := by
  unfold okF at h
  unfold ntOf codeOf at hgo
  unfold resOf at hs
  cases hf : C.P.funcs[f]? with
  | none => rw [hf] at h; cases h
  | some fn =>
    rw [hf] at h hgo hs
    dsimp only at h hgo hs
    simp only [Bool.and_eq_true, Nat.ble_eq] at h
    obtain ⟨⟨h1, h2⟩, h3⟩ := h
    cases hb : fn.body with
    | none => rw [hb] at h1; cases h1
    | some c =>
      rw [hb] at hgo
      exact con_goes hf hb (by simpa [nameOk] using h2) rfl h3 hgo hre hs hok
theorem con_goesC {P : Program} {es : List Entry} {d : Nat} {f : FuncId} (nt : Nat) {xs : List AV} (h : (okF P f xs.length && Nat.beq (ntOf P f) nt) = true) {dec : List Bool} {e : Ex} {s : St} {n : Nat} {r : HOut} (hs : finH P s (resOf P f) n = some r) (hok : r.ok = true) (hre : e = .ret ∨ e = .normal)
    (hgo : ∀ w0, Goes (ctx P es d) w0 nt (codeOf P f) (St0 xs dec) e s) : Con P f xs n r.val r.blks := by
  simp only [Bool.and_eq_true] at h
  have hn := Nat.eq_of_beq_eq_true h.2
  subst hn
  exact con_goesF (C := ctx P es d) h.1 hgo hre hs hok
end
end Go.Eng
/- Leaves, part 5: from-tos: made, added, taken away, multiplied. No condition. -/
namespace Go.Eng
open Go Go.RowKit

def ivA (lo hi : Nat) : AV := .agg [.flt lo, .flt hi]
def mkLo (lo hi : Nat) : Nat := bif fle lo hi then lo else ninfB
def mkHi (lo hi : Nat) : Nat := bif fle lo hi then hi else infB
def outLo (lo hi : Nat) : Nat := mkLo (fdown lo) (fup hi)
def outHi (lo hi : Nat) : Nat := mkHi (fdown lo) (fup hi)

namespace Try
open Go.Proofs.Try

def es1 : List Entry := [eNext, eBits, eFrom]
theorem es1_ok : ∀ e ∈ es1, EntryOK prog e := by
  intro e he
  simp only [es1, List.mem_cons, List.not_mem_nil, or_false] at he
  rcases he with rfl | rfl | rfl
  · exact eNext_ok
  · exact eBits_ok
  · exact eFrom_ok
theorem O1 : OrcOK (ctx prog es1 6).P (ctx prog es1 6).orc := ctx_ok mixed es1_ok 6

theorem con_make (lo hi n : Nat) : Con prog 18 [.flt lo, .flt hi] n (ivA (mkLo lo hi) (mkHi lo hi)) [] := by
  unfold mkLo mkHi
  cases h : fle lo hi with
  | true => exact con_evF O1 mixed (qs := [10]) (dec := [true]) (r := ⟨ivA lo hi, [], fle lo hi && true⟩) (by kernel_rfl) (by simp [h])
  | false => exact con_evF O1 mixed (qs := [10]) (dec := [false]) (r := ⟨ivA ninfB infB, [], !fle lo hi && true⟩) (by kernel_rfl) (by simp [h])

def eMake : Entry := ⟨18, fun xs _ => match xs with
  | [.flt lo, .flt hi] => some ⟨ivA (mkLo lo hi) (mkHi lo hi), [], true⟩
  | _ => none⟩
theorem eMake_ok : EntryOK prog eMake := by
  intro xs n r h hok
  simp only [eMake] at h
  split at h
  · cases h; exact con_make _ _ n
  · cases h

def es2 : List Entry := [eMake, eNext, eBits, eFrom]
theorem es2_ok : ∀ e ∈ es2, EntryOK prog e := by
  intro e he
  simp only [es2, List.mem_cons, List.not_mem_nil, or_false] at he
  rcases he with rfl | rfl | rfl | rfl
  · exact eMake_ok
  · exact eNext_ok
  · exact eBits_ok
  · exact eFrom_ok
theorem O2 : OrcOK (ctx prog es2 6).P (ctx prog es2 6).orc := ctx_ok mixed es2_ok 6


theorem con_add (a b c d n : Nat) : Con prog 20 [ivA a b, ivA c d] n (ivA (outLo (fadd a c) (fadd b d)) (outHi (fadd a c) (fadd b d))) [] :=
  con_evF O2 mixed (qs := []) (dec := []) (r := ⟨ivA (outLo (fadd a c) (fadd b d)) (outHi (fadd a c) (fadd b d)), [], true⟩) (by kernel_rfl) rfl
theorem con_sub (a b c d n : Nat) : Con prog 21 [ivA a b, ivA c d] n (ivA (outLo (fsub a d) (fsub b c)) (outHi (fsub a d) (fsub b c))) [] :=
  con_evF O2 mixed (qs := []) (dec := []) (r := ⟨ivA (outLo (fsub a d) (fsub b c)) (outHi (fsub a d) (fsub b c)), [], true⟩) (by kernel_rfl) rfl
end Try
end Go.Eng
/- Leaves, part 6: from the least to the greatest of four; products. No condition. Written by wip/tools/gen6.py. -/
namespace Go.Eng
open Go Go.RowKit

def lesser (x lo : Nat) : Nat := bif flt x lo then x else lo
def greater (x hi : Nat) : Nat := bif fgt x hi then x else hi
def spanNan (a b c d : Nat) : Bool := fne a a || (fne b b || (fne c c || fne d d))
def spLo (a b c d : Nat) : Nat := lesser d (lesser c (lesser b a))
def spHi (a b c d : Nat) : Nat := greater d (greater c (greater b a))
def spanLo (a b c d : Nat) : Nat := bif spanNan a b c d then ninfB else outLo (spLo a b c d) (spHi a b c d)
def spanHi (a b c d : Nat) : Nat := bif spanNan a b c d then infB else outHi (spLo a b c d) (spHi a b c d)

namespace Try
open Go.Proofs.Try

noncomputable abbrev C2 : Ctx := ctx prog es2 6

def spS (a b c d : Nat) (i : Int) (lo hi : Nat) (dec : List Bool) : St := mk [2,3,11,12] [.ptr 0 0, .ptr 1 0, .agg [.flt a, .flt b, .flt c, .flt d], .int .i64 i] [⟨[.flt 0, .flt 0], 26⟩, ⟨[.flt lo, .flt hi], 97⟩] dec
noncomputable def spBody : Code := cL (cL (cR (cL (cR (cR (codeOf prog 84))))))

theorem spIt0 (a b c d lo hi : Nat) (w0 : World) (h : fne a a = false) (dec dec' : List Bool) : Goes C2 w0 33 spBody (spS a b c d 0 lo hi dec) .normal (spS a b c d 1 (lesser a lo) (greater a hi) dec') := by
  unfold lesser greater
  cases h1 : flt a lo with
  | true =>
    cases h2 : fgt a hi with
    | true => exact goes_re (dec := [false,true,true]) (goes_view O2 mixed (qs := [16,21,27]) (fuel := 8) (ts := [2,3,11,12]) (v := ⟨.normal, [.ptr 0 0, .ptr 1 0, .agg [.flt a, .flt b, .flt c, .flt d], .int .i64 1], [⟨[.flt 0, .flt 0], 26⟩, ⟨[.flt a, .flt a], 97⟩], fgt a hi && (flt a lo && (!fne a a && true))⟩) (by kernel_rfl) (by simp [h, h1, h2]) dec')
    | false => exact goes_re (dec := [false,true,false]) (goes_view O2 mixed (qs := [16,21,27]) (fuel := 8) (ts := [2,3,11,12]) (v := ⟨.normal, [.ptr 0 0, .ptr 1 0, .agg [.flt a, .flt b, .flt c, .flt d], .int .i64 1], [⟨[.flt 0, .flt 0], 26⟩, ⟨[.flt a, .flt hi], 97⟩], !fgt a hi && (flt a lo && (!fne a a && true))⟩) (by kernel_rfl) (by simp [h, h1, h2]) dec')
  | false =>
    cases h2 : fgt a hi with
    | true => exact goes_re (dec := [false,false,true]) (goes_view O2 mixed (qs := [16,21,27]) (fuel := 8) (ts := [2,3,11,12]) (v := ⟨.normal, [.ptr 0 0, .ptr 1 0, .agg [.flt a, .flt b, .flt c, .flt d], .int .i64 1], [⟨[.flt 0, .flt 0], 26⟩, ⟨[.flt lo, .flt a], 97⟩], fgt a hi && (!flt a lo && (!fne a a && true))⟩) (by kernel_rfl) (by simp [h, h1, h2]) dec')
    | false => exact goes_re (dec := [false,false,false]) (goes_view O2 mixed (qs := [16,21,27]) (fuel := 8) (ts := [2,3,11,12]) (v := ⟨.normal, [.ptr 0 0, .ptr 1 0, .agg [.flt a, .flt b, .flt c, .flt d], .int .i64 1], [⟨[.flt 0, .flt 0], 26⟩, ⟨[.flt lo, .flt hi], 97⟩], !fgt a hi && (!flt a lo && (!fne a a && true))⟩) (by kernel_rfl) (by simp [h, h1, h2]) dec')
theorem spNan0 (a b c d lo hi : Nat) (w0 : World) (h : fne a a = true) (dec dec' : List Bool) : Goes C2 w0 33 spBody (spS a b c d 0 lo hi dec) .ret (mk [2] [.ptr 0 0] [⟨[.flt ninfB, .flt infB], 26⟩] dec') :=
  goes_re (dec := [true]) (goes_view O2 mixed (qs := [16,21,27]) (fuel := 8) (ts := [2]) (v := ⟨.ret, [.ptr 0 0], [⟨[.flt ninfB, .flt infB], 26⟩], fne a a && true⟩) (by kernel_rfl) (by simp [h]) dec')
theorem spIt1 (a b c d lo hi : Nat) (w0 : World) (h : fne b b = false) (dec dec' : List Bool) : Goes C2 w0 33 spBody (spS a b c d 1 lo hi dec) .normal (spS a b c d 2 (lesser b lo) (greater b hi) dec') := by
  unfold lesser greater
  cases h1 : flt b lo with
  | true =>
    cases h2 : fgt b hi with
    | true => exact goes_re (dec := [false,true,true]) (goes_view O2 mixed (qs := [16,21,27]) (fuel := 8) (ts := [2,3,11,12]) (v := ⟨.normal, [.ptr 0 0, .ptr 1 0, .agg [.flt a, .flt b, .flt c, .flt d], .int .i64 2], [⟨[.flt 0, .flt 0], 26⟩, ⟨[.flt b, .flt b], 97⟩], fgt b hi && (flt b lo && (!fne b b && true))⟩) (by kernel_rfl) (by simp [h, h1, h2]) dec')
    | false => exact goes_re (dec := [false,true,false]) (goes_view O2 mixed (qs := [16,21,27]) (fuel := 8) (ts := [2,3,11,12]) (v := ⟨.normal, [.ptr 0 0, .ptr 1 0, .agg [.flt a, .flt b, .flt c, .flt d], .int .i64 2], [⟨[.flt 0, .flt 0], 26⟩, ⟨[.flt b, .flt hi], 97⟩], !fgt b hi && (flt b lo && (!fne b b && true))⟩) (by kernel_rfl) (by simp [h, h1, h2]) dec')
  | false =>
    cases h2 : fgt b hi with
    | true => exact goes_re (dec := [false,false,true]) (goes_view O2 mixed (qs := [16,21,27]) (fuel := 8) (ts := [2,3,11,12]) (v := ⟨.normal, [.ptr 0 0, .ptr 1 0, .agg [.flt a, .flt b, .flt c, .flt d], .int .i64 2], [⟨[.flt 0, .flt 0], 26⟩, ⟨[.flt lo, .flt b], 97⟩], fgt b hi && (!flt b lo && (!fne b b && true))⟩) (by kernel_rfl) (by simp [h, h1, h2]) dec')
    | false => exact goes_re (dec := [false,false,false]) (goes_view O2 mixed (qs := [16,21,27]) (fuel := 8) (ts := [2,3,11,12]) (v := ⟨.normal, [.ptr 0 0, .ptr 1 0, .agg [.flt a, .flt b, .flt c, .flt d], .int .i64 2], [⟨[.flt 0, .flt 0], 26⟩, ⟨[.flt lo, .flt hi], 97⟩], !fgt b hi && (!flt b lo && (!fne b b && true))⟩) (by kernel_rfl) (by simp [h, h1, h2]) dec')
theorem spNan1 (a b c d lo hi : Nat) (w0 : World) (h : fne b b = true) (dec dec' : List Bool) : Goes C2 w0 33 spBody (spS a b c d 1 lo hi dec) .ret (mk [2] [.ptr 0 0] [⟨[.flt ninfB, .flt infB], 26⟩] dec') :=
  goes_re (dec := [true]) (goes_view O2 mixed (qs := [16,21,27]) (fuel := 8) (ts := [2]) (v := ⟨.ret, [.ptr 0 0], [⟨[.flt ninfB, .flt infB], 26⟩], fne b b && true⟩) (by kernel_rfl) (by simp [h]) dec')
theorem spIt2 (a b c d lo hi : Nat) (w0 : World) (h : fne c c = false) (dec dec' : List Bool) : Goes C2 w0 33 spBody (spS a b c d 2 lo hi dec) .normal (spS a b c d 3 (lesser c lo) (greater c hi) dec') := by
  unfold lesser greater
  cases h1 : flt c lo with
  | true =>
    cases h2 : fgt c hi with
    | true => exact goes_re (dec := [false,true,true]) (goes_view O2 mixed (qs := [16,21,27]) (fuel := 8) (ts := [2,3,11,12]) (v := ⟨.normal, [.ptr 0 0, .ptr 1 0, .agg [.flt a, .flt b, .flt c, .flt d], .int .i64 3], [⟨[.flt 0, .flt 0], 26⟩, ⟨[.flt c, .flt c], 97⟩], fgt c hi && (flt c lo && (!fne c c && true))⟩) (by kernel_rfl) (by simp [h, h1, h2]) dec')
    | false => exact goes_re (dec := [false,true,false]) (goes_view O2 mixed (qs := [16,21,27]) (fuel := 8) (ts := [2,3,11,12]) (v := ⟨.normal, [.ptr 0 0, .ptr 1 0, .agg [.flt a, .flt b, .flt c, .flt d], .int .i64 3], [⟨[.flt 0, .flt 0], 26⟩, ⟨[.flt c, .flt hi], 97⟩], !fgt c hi && (flt c lo && (!fne c c && true))⟩) (by kernel_rfl) (by simp [h, h1, h2]) dec')
  | false =>
    cases h2 : fgt c hi with
    | true => exact goes_re (dec := [false,false,true]) (goes_view O2 mixed (qs := [16,21,27]) (fuel := 8) (ts := [2,3,11,12]) (v := ⟨.normal, [.ptr 0 0, .ptr 1 0, .agg [.flt a, .flt b, .flt c, .flt d], .int .i64 3], [⟨[.flt 0, .flt 0], 26⟩, ⟨[.flt lo, .flt c], 97⟩], fgt c hi && (!flt c lo && (!fne c c && true))⟩) (by kernel_rfl) (by simp [h, h1, h2]) dec')
    | false => exact goes_re (dec := [false,false,false]) (goes_view O2 mixed (qs := [16,21,27]) (fuel := 8) (ts := [2,3,11,12]) (v := ⟨.normal, [.ptr 0 0, .ptr 1 0, .agg [.flt a, .flt b, .flt c, .flt d], .int .i64 3], [⟨[.flt 0, .flt 0], 26⟩, ⟨[.flt lo, .flt hi], 97⟩], !fgt c hi && (!flt c lo && (!fne c c && true))⟩) (by kernel_rfl) (by simp [h, h1, h2]) dec')
theorem spNan2 (a b c d lo hi : Nat) (w0 : World) (h : fne c c = true) (dec dec' : List Bool) : Goes C2 w0 33 spBody (spS a b c d 2 lo hi dec) .ret (mk [2] [.ptr 0 0] [⟨[.flt ninfB, .flt infB], 26⟩] dec') :=
  goes_re (dec := [true]) (goes_view O2 mixed (qs := [16,21,27]) (fuel := 8) (ts := [2]) (v := ⟨.ret, [.ptr 0 0], [⟨[.flt ninfB, .flt infB], 26⟩], fne c c && true⟩) (by kernel_rfl) (by simp [h]) dec')
theorem spIt3 (a b c d lo hi : Nat) (w0 : World) (h : fne d d = false) (dec dec' : List Bool) : Goes C2 w0 33 spBody (spS a b c d 3 lo hi dec) .normal (spS a b c d 4 (lesser d lo) (greater d hi) dec') := by
  unfold lesser greater
  cases h1 : flt d lo with
  | true =>
    cases h2 : fgt d hi with
    | true => exact goes_re (dec := [false,true,true]) (goes_view O2 mixed (qs := [16,21,27]) (fuel := 8) (ts := [2,3,11,12]) (v := ⟨.normal, [.ptr 0 0, .ptr 1 0, .agg [.flt a, .flt b, .flt c, .flt d], .int .i64 4], [⟨[.flt 0, .flt 0], 26⟩, ⟨[.flt d, .flt d], 97⟩], fgt d hi && (flt d lo && (!fne d d && true))⟩) (by kernel_rfl) (by simp [h, h1, h2]) dec')
    | false => exact goes_re (dec := [false,true,false]) (goes_view O2 mixed (qs := [16,21,27]) (fuel := 8) (ts := [2,3,11,12]) (v := ⟨.normal, [.ptr 0 0, .ptr 1 0, .agg [.flt a, .flt b, .flt c, .flt d], .int .i64 4], [⟨[.flt 0, .flt 0], 26⟩, ⟨[.flt d, .flt hi], 97⟩], !fgt d hi && (flt d lo && (!fne d d && true))⟩) (by kernel_rfl) (by simp [h, h1, h2]) dec')
  | false =>
    cases h2 : fgt d hi with
    | true => exact goes_re (dec := [false,false,true]) (goes_view O2 mixed (qs := [16,21,27]) (fuel := 8) (ts := [2,3,11,12]) (v := ⟨.normal, [.ptr 0 0, .ptr 1 0, .agg [.flt a, .flt b, .flt c, .flt d], .int .i64 4], [⟨[.flt 0, .flt 0], 26⟩, ⟨[.flt lo, .flt d], 97⟩], fgt d hi && (!flt d lo && (!fne d d && true))⟩) (by kernel_rfl) (by simp [h, h1, h2]) dec')
    | false => exact goes_re (dec := [false,false,false]) (goes_view O2 mixed (qs := [16,21,27]) (fuel := 8) (ts := [2,3,11,12]) (v := ⟨.normal, [.ptr 0 0, .ptr 1 0, .agg [.flt a, .flt b, .flt c, .flt d], .int .i64 4], [⟨[.flt 0, .flt 0], 26⟩, ⟨[.flt lo, .flt hi], 97⟩], !fgt d hi && (!flt d lo && (!fne d d && true))⟩) (by kernel_rfl) (by simp [h, h1, h2]) dec')
theorem spNan3 (a b c d lo hi : Nat) (w0 : World) (h : fne d d = true) (dec dec' : List Bool) : Goes C2 w0 33 spBody (spS a b c d 3 lo hi dec) .ret (mk [2] [.ptr 0 0] [⟨[.flt ninfB, .flt infB], 26⟩] dec') :=
  goes_re (dec := [true]) (goes_view O2 mixed (qs := [16,21,27]) (fuel := 8) (ts := [2]) (v := ⟨.ret, [.ptr 0 0], [⟨[.flt ninfB, .flt infB], 26⟩], fne d d && true⟩) (by kernel_rfl) (by simp [h]) dec')
theorem spOut (a b c d lo hi : Nat) (w0 : World) (dec dec' : List Bool) : Goes C2 w0 33 spBody (spS a b c d 4 lo hi dec) (.exit 0) (spS a b c d 4 lo hi dec') :=
  goes_re (dec := []) (goes_view O2 mixed (qs := [16,21,27]) (fuel := 8) (ts := [2,3,11,12]) (v := ⟨.exit 0, [.ptr 0 0, .ptr 1 0, .agg [.flt a, .flt b, .flt c, .flt d], .int .i64 4], [⟨[.flt 0, .flt 0], 26⟩, ⟨[.flt lo, .flt hi], 97⟩], true⟩) (by kernel_rfl) rfl dec')

theorem spPre (a b c d : Nat) (w0 : World) {e : Ex} {s2 : St} (h : Goes C2 w0 33 (cR (cR (codeOf prog 84))) (mk [1,2,3] [.ptr 0 0, .ptr 1 0, .ptr 2 0] [⟨[.flt a, .flt b, .flt c, .flt d], 100⟩, ⟨[.flt 0, .flt 0], 26⟩, ⟨[.flt a, .flt a], 97⟩] []) e s2) : Goes C2 w0 33 (codeOf prog 84) (St0 [.agg [.flt a, .flt b, .flt c, .flt d]] []) e s2 :=
  seq_view O2 mixed (qs := []) (fuel := 8) [1,2] (xs := [.ptr 0 0, .ptr 1 0]) (bs := [⟨[.flt a, .flt b, .flt c, .flt d], 100⟩, ⟨[.flt 0, .flt 0], 26⟩]) (ok := true) (dec := []) (by kernel_rfl) (by kernel_rfl) rfl
    (seq_view O2 mixed (qs := []) (fuel := 8) [1,2,3] (xs := [.ptr 0 0, .ptr 1 0, .ptr 2 0]) (bs := [⟨[.flt a, .flt b, .flt c, .flt d], 100⟩, ⟨[.flt 0, .flt 0], 26⟩, ⟨[.flt a, .flt a], 97⟩]) (ok := true) (dec := []) (by kernel_rfl) (by kernel_rfl) rfl h)

theorem spMid (a b c d : Nat) (w0 : World) {e : Ex} {s2 : St} (h : Goes C2 w0 33 (cR (cL (cR (cR (codeOf prog 84))))) (spS a b c d 0 a a []) e s2) : Goes C2 w0 33 (cL (cR (cR (codeOf prog 84)))) (mk [1,2,3] [.ptr 0 0, .ptr 1 0, .ptr 2 0] [⟨[.flt a, .flt b, .flt c, .flt d], 100⟩, ⟨[.flt 0, .flt 0], 26⟩, ⟨[.flt a, .flt a], 97⟩] []) e s2 :=
  seq_view O2 mixed (qs := []) (fuel := 8) [2,3,11,12] (xs := [.ptr 0 0, .ptr 1 0, .agg [.flt a, .flt b, .flt c, .flt d], .int .i64 0]) (bs := [⟨[.flt 0, .flt 0], 26⟩, ⟨[.flt a, .flt a], 97⟩]) (ok := true) (dec := []) (by kernel_rfl) (by kernel_rfl) rfl h

theorem lesser_self (a : Nat) : lesser a a = a := by unfold lesser; cases flt a a <;> rfl
theorem greater_self (a : Nat) : greater a a = a := by unfold greater; cases fgt a a <;> rfl

def spSt (a b c d : Nat) : Nat → St
  | 0 => spS a b c d 0 a a []
  | 1 => spS a b c d 1 a a []
  | 2 => spS a b c d 2 (lesser b a) (greater b a) []
  | 3 => spS a b c d 3 (lesser c (lesser b a)) (greater c (greater b a)) []
  | _ => spS a b c d 4 (spLo a b c d) (spHi a b c d) []

/-- A span that goes through. -/
theorem con_span (a b c d n : Nat) : Con prog 84 [.agg [.flt a, .flt b, .flt c, .flt d]] n (ivA (spanLo a b c d) (spanHi a b c d)) [] := by
  cases hn : spanNan a b c d with
  | false =>
    simp only [spanNan, Bool.or_eq_false_iff] at hn
    have hL : spanLo a b c d = outLo (spLo a b c d) (spHi a b c d) := by simp [spanLo, spanNan, hn]
    have hH : spanHi a b c d = outHi (spLo a b c d) (spHi a b c d) := by simp [spanHi, spanNan, hn]
    rw [hL, hH]
    refine @con_goesC prog es2 6 84 33 _ (by kernel_rfl) [] .ret (mk [2] [.ptr 0 0] [⟨[.flt (outLo (spLo a b c d) (spHi a b c d)), .flt (outHi (spLo a b c d) (spHi a b c d))], 26⟩] []) n ⟨ivA (outLo (spLo a b c d) (spHi a b c d)) (outHi (spLo a b c d) (spHi a b c d)), [], true⟩ (by kernel_rfl) rfl (.inl rfl) fun w0 => ?_
    refine spPre a b c d w0 (goes_seq (by kernel_rfl) (spMid a b c d w0 (goes_block (id := 0) (by kernel_rfl) (goes_loop (by kernel_rfl) (fun h => by cases h) 4 (spSt a b c d) (s2 := spS a b c d 4 (spLo a b c d) (spHi a b c d) []) ?_ ?_))) ?_)
    · intro i hi
      match i, hi with
      | 0, _ => have := spIt0 a b c d a a w0 hn.1 [] []; rw [lesser_self, greater_self] at this; exact this
      | 1, _ => exact spIt1 a b c d _ _ w0 hn.2.1 [] []
      | 2, _ => exact spIt2 a b c d _ _ w0 hn.2.2.1 [] []
      | 3, _ => exact spIt3 a b c d _ _ w0 hn.2.2.2 [] []
      | k + 4, h => omega
    · exact spOut a b c d _ _ w0 [] []
    · exact goes_view O2 mixed (qs := []) (fuel := 8) (ts := [2]) (v := ⟨.ret, [.ptr 0 0], [⟨[.flt (outLo (spLo a b c d) (spHi a b c d)), .flt (outHi (spLo a b c d) (spHi a b c d))], 26⟩], true⟩) (by kernel_rfl) rfl []
  | true =>
    have hL : spanLo a b c d = ninfB := by simp [spanLo, hn]
    have hH : spanHi a b c d = infB := by simp [spanHi, hn]
    rw [hL, hH]
    refine @con_goesC prog es2 6 84 33 _ (by kernel_rfl) [] .ret (mk [2] [.ptr 0 0] [⟨[.flt ninfB, .flt infB], 26⟩] []) n ⟨ivA ninfB infB, [], true⟩ (by kernel_rfl) rfl (.inl rfl) fun w0 => ?_
    refine spPre a b c d w0 (goes_seq_out (by kernel_rfl) (fun h => by cases h) (spMid a b c d w0 (goes_block_ret (id := 0) (by kernel_rfl) ?_)))
    cases h1 : fne a a with
    | true => exact goes_loop (by kernel_rfl) (fun h => by cases h) 0 (spSt a b c d) (fun i hi => by omega) (spNan0 a b c d _ _ w0 h1 [] [])
    | false =>
      have g0 : Goes C2 w0 33 spBody (spSt a b c d 0) .normal (spSt a b c d 1) := by
        have := spIt0 a b c d a a w0 h1 [] []; rw [lesser_self, greater_self] at this; exact this
      cases h2 : fne b b with
      | true => exact goes_loop (by kernel_rfl) (fun h => by cases h) 1 (spSt a b c d) (fun i hi => by
          match i, hi with
          | 0, _ => exact g0
          | k + 1, h => omega) (spNan1 a b c d _ _ w0 h2 [] [])
      | false =>
        have g1 : Goes C2 w0 33 spBody (spSt a b c d 1) .normal (spSt a b c d 2) := spIt1 a b c d _ _ w0 h2 [] []
        cases h3 : fne c c with
        | true => exact goes_loop (by kernel_rfl) (fun h => by cases h) 2 (spSt a b c d) (fun i hi => by
            match i, hi with
            | 0, _ => exact g0
            | 1, _ => exact g1
            | k + 2, h => omega) (spNan2 a b c d _ _ w0 h3 [] [])
        | false =>
          have g2 : Goes C2 w0 33 spBody (spSt a b c d 2) .normal (spSt a b c d 3) := spIt2 a b c d _ _ w0 h3 [] []
          have h4 : fne d d = true := by simpa [spanNan, h1, h2, h3] using hn
          exact goes_loop (by kernel_rfl) (fun h => by cases h) 3 (spSt a b c d) (fun i hi => by
            match i, hi with
            | 0, _ => exact g0
            | 1, _ => exact g1
            | 2, _ => exact g2
            | k + 3, h => omega) (spNan3 a b c d _ _ w0 h4 [] [])

def eSpan : Entry := ⟨84, fun xs _ => match xs with
  | [.agg [.flt a, .flt b, .flt c, .flt d]] => some ⟨ivA (spanLo a b c d) (spanHi a b c d), [], true⟩
  | _ => none⟩
theorem eSpan_ok : EntryOK prog eSpan := by
  intro xs n r h hok
  simp only [eSpan] at h
  split at h
  · cases h; exact con_span _ _ _ _ n
  · cases h

def mulLo (a b c d : Nat) : Nat := spanLo (fmul a c) (fmul a d) (fmul b c) (fmul b d)
def mulHi (a b c d : Nat) : Nat := spanHi (fmul a c) (fmul a d) (fmul b c) (fmul b d)

def es3 : List Entry := [eSpan, eMake, eNext, eBits, eFrom]
theorem es3_ok : ∀ e ∈ es3, EntryOK prog e := by
  intro e he
  simp only [es3, List.mem_cons, List.not_mem_nil, or_false] at he
  rcases he with rfl | rfl | rfl | rfl | rfl
  · exact eSpan_ok
  · exact eMake_ok
  · exact eNext_ok
  · exact eBits_ok
  · exact eFrom_ok
theorem O3 : OrcOK (ctx prog es3 6).P (ctx prog es3 6).orc := ctx_ok mixed es3_ok 6

theorem con_mul (a b c d n : Nat) : Con prog 22 [ivA a b, ivA c d] n (ivA (mulLo a b c d) (mulHi a b c d)) [] :=
  con_evF O3 mixed (qs := []) (dec := []) (r := ⟨ivA (mulLo a b c d) (mulHi a b c d), [], true⟩) (by kernel_rfl) rfl
theorem con_in (x a b n : Nat) : Con prog 23 [.flt x, ivA a b] n (.bool (fle a x && fle x b)) [] := by
  cases h : fle a x with
  | true => exact con_evF O3 mixed (qs := [9]) (dec := [true]) (r := ⟨.bool (fle x b), [], fle a x && true⟩) (by kernel_rfl) (by simp [h])
  | false => exact con_evF O3 mixed (qs := [9]) (dec := [false]) (r := ⟨.bool false, [], !fle a x && true⟩) (by kernel_rfl) (by simp [h])
end Try
end Go.Eng
/- Leaves, part 7: more entries; what a law's 'known' and 'within' answer. No condition. -/
namespace Go.Eng
open Go Go.RowKit

/-- a modulo n, from 0 on, as the laws have it. -/
def wi (a n : Int) : Int := bif decide (a.tmod n < 0) then IntKind.i64.wrap (a.tmod n + n) else a.tmod n

namespace Try
open Go.Proofs.Try

def eAdd : Entry := ⟨20, fun xs _ => match xs with
  | [.agg [.flt a, .flt b], .agg [.flt c, .flt d]] => some ⟨ivA (outLo (fadd a c) (fadd b d)) (outHi (fadd a c) (fadd b d)), [], true⟩
  | _ => none⟩
theorem eAdd_ok : EntryOK prog eAdd := by
  intro xs n r h hok
  simp only [eAdd] at h
  split at h
  · cases h; exact con_add _ _ _ _ n
  · cases h
def eSub : Entry := ⟨21, fun xs _ => match xs with
  | [.agg [.flt a, .flt b], .agg [.flt c, .flt d]] => some ⟨ivA (outLo (fsub a d) (fsub b c)) (outHi (fsub a d) (fsub b c)), [], true⟩
  | _ => none⟩
theorem eSub_ok : EntryOK prog eSub := by
  intro xs n r h hok
  simp only [eSub] at h
  split at h
  · cases h; exact con_sub _ _ _ _ n
  · cases h
def eMul : Entry := ⟨22, fun xs _ => match xs with
  | [.agg [.flt a, .flt b], .agg [.flt c, .flt d]] => some ⟨ivA (mulLo a b c d) (mulHi a b c d), [], true⟩
  | _ => none⟩
theorem eMul_ok : EntryOK prog eMul := by
  intro xs n r h hok
  simp only [eMul] at h
  split at h
  · cases h; exact con_mul _ _ _ _ n
  · cases h
def eIn : Entry := ⟨23, fun xs _ => match xs with
  | [.flt x, .agg [.flt a, .flt b]] => some ⟨.bool (fle a x && fle x b), [], true⟩
  | _ => none⟩
theorem eIn_ok : EntryOK prog eIn := by
  intro xs n r h hok
  simp only [eIn] at h
  split at h
  · cases h; exact con_in _ _ _ n
  · cases h

theorem con_within (f : FuncId) (hf : f = 19 ∨ f = 25 ∨ f = 34 ∨ f = 44 ∨ f = 58 ∨ f = 101) (a m : Int) (hm : m ≠ 0) (n : Nat) : Con prog f [.int .i64 a, .int .i64 m] n (.int .i64 (wi a m)) [] := by
  unfold wi
  have hm' : (m != 0) = true := by simpa using hm
  cases h : decide (a.tmod m < 0) with
  | true =>
    rcases hf with rfl | rfl | rfl | rfl | rfl | rfl <;>
    exact con_evF O3 mixed (qs := [10]) (dec := [true]) (r := ⟨.int .i64 (IntKind.i64.wrap (a.tmod m + m)), [], decide (a.tmod m < 0) && ((m != 0) && true)⟩) (by kernel_rfl) (by rw [h, hm']; rfl)
  | false =>
    rcases hf with rfl | rfl | rfl | rfl | rfl | rfl <;>
    exact con_evF O3 mixed (qs := [10]) (dec := [false]) (r := ⟨.int .i64 (a.tmod m), [], !decide (a.tmod m < 0) && ((m != 0) && true)⟩) (by kernel_rfl) (by rw [h, hm']; rfl)

def eWithin (f : FuncId) : Entry := ⟨f, fun xs _ => match xs with
  | [.int k a, .int k' m] => bif decide (k = .i64) && decide (k' = .i64) then some ⟨.int .i64 (wi a m), [], m != 0⟩ else none
  | _ => none⟩
theorem eWithin_ok (f : FuncId) (hf : f = 19 ∨ f = 25 ∨ f = 34 ∨ f = 44 ∨ f = 58 ∨ f = 101) : EntryOK prog (eWithin f) := by
  intro xs n r h hok
  simp only [eWithin] at h
  split at h
  · rename_i k a k' m
    cases hk : (decide (k = .i64) && decide (k' = .i64)) with
    | false => rw [hk] at h; cases h
    | true =>
      rw [hk] at h
      simp only [Bool.and_eq_true, decide_eq_true_eq] at hk
      obtain ⟨rfl, rfl⟩ := hk
      cases h
      exact con_within f hf a m (by simpa using hok) n
  · cases h

def es4 : List Entry := [eAdd, eSub, eMul, eIn, eSpan, eMake, eNext, eBits, eFrom, eWithin 19, eWithin 25, eWithin 34, eWithin 44, eWithin 58, eWithin 101]
theorem es4_ok : ∀ e ∈ es4, EntryOK prog e := by
  intro e he
  simp only [es4, List.mem_cons, List.not_mem_nil, or_false] at he
  rcases he with rfl | rfl | rfl | rfl | rfl | rfl | rfl | rfl | rfl | rfl | rfl | rfl | rfl | rfl | rfl
  · exact eAdd_ok
  · exact eSub_ok
  · exact eMul_ok
  · exact eIn_ok
  · exact eSpan_ok
  · exact eMake_ok
  · exact eNext_ok
  · exact eBits_ok
  · exact eFrom_ok
  all_goals exact eWithin_ok _ (by simp)
noncomputable abbrev C4 : Ctx := ctx prog es4 8
theorem O4 : OrcOK C4.P C4.orc := ctx_ok mixed es4_ok 8

theorem con_known2 (n : Nat) : Con prog 17 [] n (.bool true) [] :=
  con_evF O4 mixed (qs := []) (dec := []) (r := ⟨.bool true, [], true⟩) (by kernel_rfl) rfl
def eKnown2 : Entry := ⟨17, fun xs _ => match xs with
  | [] => some ⟨.bool true, [], true⟩
  | _ => none⟩
theorem eKnown2_ok : EntryOK prog eKnown2 := by
  intro xs n r h hok
  simp only [eKnown2] at h
  split at h
  · cases h; exact con_known2 n
  · cases h
end Try
end Go.Eng
/- Leaves, part 8: a law's contract is its row's walk; rows of integers that came in. Condition: the row reads as told. -/
namespace Go.Eng
open Go Go.RowKit

/-- A slice of integers that came in: nil, or it leads to a row of 'cap' cells. -/
def IsRow (k : IntKind) (w : World) (a : Option Addr) (len cap : Nat) (zs : List Int) : Prop :=
  (a = none ∧ len = 0 ∧ cap = 0 ∧ zs = []) ∨
  ∃ x, a = some x ∧ len ≤ cap ∧ cap ≤ maxLen ∧ zs.length = cap ∧ (∀ i, i < zs.length → w.cell? (x.add i) = some (.int k (zs.getD i 0))) ∧ ∀ n ∈ zs, (Lit.int k n).wf = true

theorem VL_ints {im : Im} {φ : Phi} {k : IntKind} : ∀ (zs : List Int), VL im φ (zs.map (AV.int k)) (zs.map (Value.int k))
  | [] => .nil _
  | _ :: zs => .cons _ _ _ _ _ (.int _ _ _) (VL_ints zs)

theorem cell_none {w : World} {x : Addr} {v : Value} (h : w.cell? x = some v) : x.spot = none ∧ ∃ cs e g, w.heap[x.block]? = some (.cells cs e g) ∧ cs[x.off]? = some v := by
  have hs := World.cell?_spot h
  refine ⟨hs, ?_⟩
  obtain ⟨b, o, s⟩ := x
  dsimp only at hs
  subst hs
  unfold World.cell? at h
  split at h
  · rename_i cs e g hh
    exact ⟨cs, e, g, hh, by simpa using h⟩
  · cases h

theorem add_zero_is (x : Addr) : x.add 0 = x := by simp [Addr.add]
theorem addr_at (b o i : Nat) : (⟨b, o, none⟩ : Addr).add i = ⟨b, o + i, none⟩ := by
  unfold Addr.add
  by_cases h : i = 0
  · subst h; simp
  · simp [h]

/-- What came in, as the evaluator sees it. -/
theorem V_ints {k : IntKind} {w : World} {a : Option Addr} {len cap : Nat} {zs : List Int} (h : IsRow k w a len cap zs) : V (imOf w) (fun _ => none) (.snap (zs.map (AV.int k)) len) (.slice a len cap) := by
  rcases h with ⟨rfl, rfl, rfl, rfl⟩ | ⟨x, rfl, hl, hm, hz, hcell, hwz⟩
  · exact .snape _ _ _ _
  · cases hzs : zs with
    | nil =>
      subst hzs
      have : cap = 0 := by simpa using hz.symm
      have : len = 0 := by omega
      subst this
      exact .snape _ _ _ _
    | cons z zs' =>
      rw [← hzs]
      have h0 := hcell 0 (by rw [hzs]; simp)
      obtain ⟨s0, cs, e, g, hh, hc0⟩ := cell_none h0
      obtain ⟨b, o, s⟩ := x
      rw [add_zero_is] at s0 hh
      dsimp only at s0
      subst s0
      refine .snap _ _ _ b o cap cs (zs.map (Value.int k)) (imOf_of hh) ?_ (VL_ints zs) hl
      apply List.ext_getElem?
      intro i
      rw [List.getElem?_map, List.length_map, List.getElem?_take, List.getElem?_drop]
      by_cases hi : i < zs.length
      · rw [if_pos hi]
        have hci := hcell i hi
        obtain ⟨_, cs', e', g', hh', hc'⟩ := cell_none hci
        rw [addr_at] at hh' hc'
        rw [hh] at hh'
        cases hh'
        have hc2 : cs[o + i]? = some (Value.int k (zs.getD i 0)) := hc'
        have e1 : cs.toList[o + i]? = cs[o + i]? := Array.getElem?_toList
        rw [e1, hc2, List.getElem?_eq_getElem hi]
        simp [hi]
      · rw [if_neg hi, List.getElem?_eq_none (by omega)]
        rfl

theorem calls_of_con {P : Program} {f : FuncId} {xs : List AV} (h : okF P f 0 = true) {n : Nat} {r : AV} {N : List ABlk} (hc : Con P f xs n r N) {im : Im} {w : World} {args : Array Value} (him : ∀ b cs, im b = some cs → ∃ e g, w.heap[b]? = some (.cells cs e g)) (hv : VL im (fun _ => none) xs args.toList) :
    Calls P f args w fun e w' => ∃ v, e = .returned v ∧ Leaves P w n r N v w' := by
  unfold okF at h
  cases hf : P.funcs[f]? with
  | none => rw [hf] at h; cases h
  | some fn =>
    rw [hf] at h
    simp only [Bool.and_eq_true] at h
    obtain ⟨⟨h1, h2⟩, _⟩ := h
    cases hb : fn.body with
    | none => rw [hb] at h1; cases h1
    | some c =>
      have hr := run_callFunc hf hb (by simpa [nameOk] using h2) args w
      obtain ⟨nx, w1, g1, g2⟩ := hc im w args him hv
      rw [hr] at g1
      cases g1
      rcases g2 with ⟨v, e, _⟩ | ⟨g, ar, e, hcalls⟩
      · cases e
      · cases e
        exact hcalls

/-- A law that answers true: what its row's walk asks. -/
theorem walk_of_con {P : Program} {f : FuncId} {xs : List AV} (h : okF P f 0 = true) {n : Nat} (hc : Con P f xs n (.bool true) []) {w : World} {args : Array Value} (hv : VL (imOf w) (fun _ => none) xs args.toList) :
    Calls P f args w fun e w' => e = .returned (.bool true) ∧ Below w.heap.size w w' := by
  refine (calls_of_con h hc (fun b cs e => imOf_is e) hv).mono fun e w' ⟨v, he, hl⟩ => ?_
  obtain ⟨φ', im', hb, _, _, _, hV⟩ := hl
  cases hV
  exact ⟨he, hb⟩
end Go.Eng
/- Leaves, part 9: the size of a float, a float times a power of two, two floats the same. Condition: no NaN where bits are asked for. -/
namespace Go.Eng
open Go Go.RowKit

/-- The size of a float, by its bits. -/
def fabsB (x : Nat) : Nat := canon (IntKind.u64.wrap ((BitVec.ofInt 64 (x : Int) &&& ~~~BitVec.ofInt 64 9223372036854775808).toNat : Int)).toNat
def normT (x : Nat) : Bool := flt (fabsB x) 4503599627370496
def normV (x : Nat) : Nat := bif normT x then fmul x 4841369599423283200 else x
def normE (x : Nat) : Int := bif normT x then -52 else 0

theorem feq_self (x : Nat) : feq x x = !nanB x := by
  unfold feq
  rw [← isNaN_read]
  unfold Ieee.Format.order
  cases h : Ieee.double.read x with
  | nan n f => simp [Ieee.Datum.order, Ieee.Datum.isNaN]
  | infinity n => cases n <;> simp [Ieee.Datum.order, Ieee.Datum.isNaN]
  | number n m p => simp [Ieee.Datum.order, Ieee.Datum.isNaN]

namespace Try
open Go.Proofs.Try

theorem con_abs (x n : Nat) (h : nanB x = false) : Con prog 71 [.flt x] n (.flt (fabsB x)) [] :=
  con_evF O4 mixed (qs := []) (dec := []) (r := ⟨.flt (fabsB x), [], u64B (IntKind.u64.wrap ((BitVec.ofInt 64 (x : Int) &&& ~~~BitVec.ofInt 64 9223372036854775808).toNat : Int)) && (!nanB x && true)⟩) (by kernel_rfl) (by rw [u64B_of (wrap_u64 _), h]; rfl)
def eAbs : Entry := ⟨71, fun xs _ => match xs with
  | [.flt x] => some ⟨.flt (fabsB x), [], !nanB x⟩
  | _ => none⟩
theorem eAbs_ok : EntryOK prog eAbs := by
  intro xs n r h hok
  simp only [eAbs] at h
  split at h
  · cases h; exact con_abs _ n (by simpa using hok)
  · cases h

theorem con_same (x n : Nat) : Con prog 57 [.flt x, .flt x] n (.bool true) [] := by
  cases h : nanB x with
  | false =>
    have h1 : feq x x = true := by rw [feq_self, h]; rfl
    exact con_evF O4 mixed (qs := [8,12]) (dec := [true]) (r := ⟨.bool true, [], feq x x && true⟩) (by kernel_rfl) (by rw [h1]; rfl)
  | true =>
    have h1 : feq x x = false := by rw [feq_self, h]; rfl
    have h2 : fne x x = true := by rw [fne_self, h]
    have := con_evF O4 mixed (f := 57) (n := n) (xs := [.flt x, .flt x]) (qs := [8,12]) (dec := [false,true]) (r := ⟨.bool (fne x x), [], fne x x && (!feq x x && true)⟩) (by kernel_rfl) (by rw [h1, h2]; rfl)
    dsimp only at this
    rw [h2] at this
    exact this
def eSame : Entry := ⟨57, fun xs _ => match xs with
  | [.flt x, .flt y] => some ⟨.bool true, [], decide (x = y)⟩
  | _ => none⟩
theorem eSame_ok : EntryOK prog eSame := by
  intro xs n r h hok
  simp only [eSame] at h
  split at h
  · cases h
    have := of_decide_eq_true hok
    subst this
    exact con_same _ n
  · cases h

def es6 : List Entry := [eAbs, eSame] ++ es4
theorem es6_ok : ∀ e ∈ es6, EntryOK prog e := by
  intro e he
  rcases List.mem_cons.1 he with rfl | he
  · exact eAbs_ok
  rcases List.mem_cons.1 he with rfl | he
  · exact eSame_ok
  · exact es4_ok e he
theorem O6 : OrcOK (ctx prog es6 8).P (ctx prog es6 8).orc := ctx_ok mixed es6_ok 8

theorem con_norm (x n : Nat) (h : nanB x = false) : Con prog 190 [.flt x] n (.tup [.flt (normV x), .int .i64 (normE x)]) [] := by
  unfold normV normE
  cases h1 : normT x with
  | true => exact con_evF O6 mixed (qs := [6]) (dec := [true]) (r := ⟨.tup [.flt (fmul x 4841369599423283200), .int .i64 (-52)], [], flt (fabsB x) 4503599627370496 && (!nanB x && true)⟩) (by kernel_rfl) (by unfold normT at h1; rw [h1, h]; rfl)
  | false => exact con_evF O6 mixed (qs := [6]) (dec := [false]) (r := ⟨.tup [.flt x, .int .i64 0], [], !flt (fabsB x) 4503599627370496 && (!nanB x && true)⟩) (by kernel_rfl) (by unfold normT at h1; rw [h1, h]; rfl)
end Try
end Go.Eng
/- Leaves, part 10: a float times a power of two. Condition: no NaN. -/
namespace Go.Eng
open Go Go.RowKit

def ldE (x : Nat) (e : Int) : Int := IntKind.i64.wrap (IntKind.i64.wrap (e + normE x) + IntKind.i64.wrap (IntKind.i64.wrap ((BitVec.ofInt 64 (IntKind.i64.wrap ((normV x : Int).fdiv (2 ^ (min (52 : Int).toNat IntKind.u64.bits)))) &&& BitVec.ofInt 64 2047).toNat : Int) - 1023))
/-- A nought of a float's sign. -/
def zeroB (y : Nat) : Int := IntKind.u64.wrap ((BitVec.ofInt 64 0 ||| BitVec.ofInt 64 (IntKind.u64.wrap ((BitVec.ofInt 64 (y : Int) &&& BitVec.ofInt 64 9223372036854775808).toNat : Int))).toNat : Int)
/-- A float's bits with another exponent. -/
def expB (y : Nat) (e : Int) : Int := IntKind.u64.wrap ((BitVec.ofInt 64 (IntKind.u64.wrap ((BitVec.ofInt 64 (y : Int) &&& ~~~BitVec.ofInt 64 9218868437227405312).toNat : Int)) ||| BitVec.ofInt 64 (IntKind.u64.wrap (IntKind.u64.wrap (IntKind.i64.wrap (e + 1023)) * 2 ^ (min (52 : Int).toNat IntKind.u64.bits)))).toNat : Int)

def ldexpS (x : Nat) (e : Int) : Nat :=
  bif feq x 0 then x else
  bif fgt (fabsB x) 9218868437227405311 then x else
  bif decide (ldE x e < -1075) then canon (zeroB (normV x)).toNat else
  bif decide (ldE x e > 1023) then (bif flt (normV x) 0 then ninfB else infB) else
  bif decide (ldE x e < -1022) then fmul 4368491638549381120 (canon (expB (normV x) (IntKind.i64.wrap (ldE x e + 53))).toNat) else
  fmul 4607182418800017408 (canon (expB (normV x) (ldE x e)).toNat)

namespace Try
open Go.Proofs.Try

def eNorm : Entry := ⟨190, fun xs _ => match xs with
  | [.flt x] => some ⟨.tup [.flt (normV x), .int .i64 (normE x)], [], !nanB x⟩
  | _ => none⟩
theorem eNorm_ok : EntryOK prog eNorm := by
  intro xs n r h hok
  simp only [eNorm] at h
  split at h
  · cases h; exact con_norm _ n (by simpa using hok)
  · cases h
def es7 : List Entry := eNorm :: es6
theorem es7_ok : ∀ e ∈ es7, EntryOK prog e := by
  intro e he
  rcases List.mem_cons.1 he with rfl | he
  · exact eNorm_ok
  · exact es6_ok e he
theorem O7 : OrcOK (ctx prog es7 8).P (ctx prog es7 8).orc := ctx_ok mixed es7_ok 8

def ldOk (x : Nat) : Bool := !nanB (normV x) && (!nanB x && (!fne x x && (!fgt (fabsB x) 9218868437227405311 && ((!nanB x && true) && (!feq x 0 && true)))))

theorem con_ldexp (x : Nat) (e : Int) (n : Nat) (hx : nanB x = false) (hy : nanB (normV x) = false) : Con prog 183 [.flt x, .int .i64 e] n (.flt (ldexpS x e)) [] := by
  unfold ldexpS
  cases h1 : feq x 0 with
  | true => exact con_evF O7 mixed (qs := [8,15,12,38,42,44,48]) (dec := [true]) (r := ⟨.flt x, [], feq x 0 && true⟩) (by kernel_rfl) (by rw [h1]; rfl)
  | false =>
    cases h2 : fgt (fabsB x) 9218868437227405311 with
    | true => exact con_evF O7 mixed (qs := [8,15,12,38,42,44,48]) (dec := [false,true,true]) (r := ⟨.flt x, [], fgt (fabsB x) 9218868437227405311 && ((!nanB x && true) && (!feq x 0 && true))⟩) (by kernel_rfl) (by rw [h1, h2, hx]; rfl)
    | false =>
      have hn : fne x x = false := by rw [fne_self]; exact hx
      have hok : ldOk x = true := by unfold ldOk; rw [hy, hx, hn, h2, h1]; rfl
      cases h3 : decide (ldE x e < -1075) with
      | true => exact con_evF O7 mixed (qs := [8,15,12,38,42,44,48]) (dec := [false,false,false,true]) (r := ⟨.flt (canon (zeroB (normV x)).toNat), [], (u64B (zeroB (normV x)) && (!nanB (normV x) && true)) && (decide (ldE x e < -1075) && ldOk x)⟩) (by kernel_rfl) (by rw [hok, h3, hy]; rw [show u64B (zeroB (normV x)) = true from u64B_of (wrap_u64 _)]; rfl)
      | false =>
        cases h4 : decide (ldE x e > 1023) with
        | true =>
          cases h5 : flt (normV x) 0 with
          | true => exact con_evF O7 mixed (qs := [8,15,12,38,42,44,48]) (dec := [false,false,false,false,true,true]) (r := ⟨.flt ninfB, [], flt (normV x) 0 && (decide (ldE x e > 1023) && (!decide (ldE x e < -1075) && ldOk x))⟩) (by kernel_rfl) (by rw [hok, h3, h4, h5]; rfl)
          | false => exact con_evF O7 mixed (qs := [8,15,12,38,42,44,48]) (dec := [false,false,false,false,true,false]) (r := ⟨.flt infB, [], !flt (normV x) 0 && (decide (ldE x e > 1023) && (!decide (ldE x e < -1075) && ldOk x))⟩) (by kernel_rfl) (by rw [hok, h3, h4, h5]; rfl)
        | false =>
          cases h6 : decide (ldE x e < -1022) with
          | true => exact con_evF O7 mixed (qs := [8,15,12,38,42,44,48]) (dec := [false,false,false,false,false,true]) (r := ⟨.flt (fmul 4368491638549381120 (canon (expB (normV x) (IntKind.i64.wrap (ldE x e + 53))).toNat)), [], u64B (expB (normV x) (IntKind.i64.wrap (ldE x e + 53))) && (decide (ldE x e < -1022) && (!decide (ldE x e > 1023) && (!decide (ldE x e < -1075) && ldOk x)))⟩) (by kernel_rfl) (by rw [hok, h3, h4, h6]; rw [show u64B (expB (normV x) (IntKind.i64.wrap (ldE x e + 53))) = true from u64B_of (wrap_u64 _)]; rfl)
          | false => exact con_evF O7 mixed (qs := [8,15,12,38,42,44,48]) (dec := [false,false,false,false,false,false]) (r := ⟨.flt (fmul 4607182418800017408 (canon (expB (normV x) (ldE x e)).toNat)), [], u64B (expB (normV x) (ldE x e)) && (!decide (ldE x e < -1022) && (!decide (ldE x e > 1023) && (!decide (ldE x e < -1075) && ldOk x)))⟩) (by kernel_rfl) (by rw [hok, h3, h4, h6]; rw [show u64B (expB (normV x) (ldE x e)) = true from u64B_of (wrap_u64 _)]; rfl)
def eLdexp : Entry := ⟨183, fun xs _ => match xs with
  | [.flt x, .int k e] => bif decide (k = .i64) then some ⟨.flt (ldexpS x e), [], !nanB x && !nanB (normV x)⟩ else none
  | _ => none⟩
theorem eLdexp_ok : EntryOK prog eLdexp := by
  intro xs n r h hok
  simp only [eLdexp] at h
  split at h
  · rename_i x k e
    cases hk : decide (k = .i64) with
    | false => rw [hk] at h; cases h
    | true =>
      rw [hk] at h
      have := of_decide_eq_true hk
      subst this
      cases h
      simp only [Bool.and_eq_true, Bool.not_eq_true'] at hok
      exact con_ldexp x e n hok.1 hok.2
  · cases h
end Try
end Go.Eng
/- Leaves, part 11: helpers for pieces with rows that are not spelled out; entries with any condition. Condition: the contracts that the evaluator leans on hold. -/
namespace Go.Eng
open Go Go.RowKit

/-- Calls by the text, but where there is an entry; rows of rows are looked through for the functions of 'deep' alone. -/
def ctxD (P : Program) (es : List Entry) (d : Nat) (deep : FuncId → Bool) : Ctx := ctx0 P (orcI P deep (fun _ => []) (orcL es) 64 d) deep

theorem ctxD_ok {P : Program} (hm : P.follows .mixedOrders = true) {es : List Entry} (hes : ∀ e ∈ es, EntryOK P e) (d : Nat) (deep : FuncId → Bool) : OrcOK (ctxD P es d deep).P (ctxD P es d deep).orc := orcI_ok hm _ _ _ _ (orcL_ok hes) d

/-- Functions whose arguments are not looked through. -/
def shallow (fs : List Nat) : FuncId → Bool := fun f => !(fs.any fun g => Nat.beq g f)

def ovL : List (Nat × AV) → Nat → Option AV
  | [], _ => none
  | p :: ps, t => bif Nat.beq p.1 t then some p.2 else ovL ps t
/-- With answers told as they are to be. -/
noncomputable def ctxO (C : Ctx) (l : List (Nat × AV)) : Ctx := ⟨C.P, C.orc, C.deep, ovL l, fun x y => pb (x = y), fun _ _ h => pb_is.1 h⟩
theorem goes_O {C : Ctx} {l : List (Nat × AV)} {w0 : World} {nt : Nat} {c : Code} {s s' : St} {e : Ex} (h : Goes (ctxO C l) w0 nt c s e s') : Goes C w0 nt c s e s' := ⟨h.of⟩
theorem ctxO_ok {C : Ctx} (h : OrcOK C.P C.orc) (l : List (Nat × AV)) : OrcOK (ctxO C l).P (ctxO C l).orc := h

section
variable {C : Ctx} {w0 : World} {nt : Nat} {qs : List Nat} {fuel : Nat}

theorem goes_to {c : Code} {s s1 s2 : St} {e : Ex} (h : Goes C w0 nt c s e s1) (hs : s1 = s2) : Goes C w0 nt c s e s2 := by subst hs; exact h
theorem goes_at {c : Code} {s s1 s2 : St} {e : Ex} (hs : s = s1) (h : Goes C w0 nt c s1 e s2) : Goes C w0 nt c s e s2 := by subst hs; exact h

theorem goes_view' (hO : OrcOK C.P C.orc) (hm : C.P.follows .mixedOrders = true) {c : Code} {s : St} {ts : List Nat} {ex : Ex} {xs : List AV} {bs : List ABlk} {ok : Bool} (h : view C nt qs fuel c s ts = some ⟨ex, xs, bs, ok⟩) (hok : ok = true) (dec : List Bool) : Goes C w0 nt c s ex (mk ts xs bs dec) := goes_view hO hm h hok dec
theorem goes_viewK' (hO : OrcOK C.P C.orc) (hm : C.P.follows .mixedOrders = true) {c : Code} {s : St} {ts : List Nat} (ms : List Md) {ex : Ex} {xs : List AV} {bs : List ABlk} {ok : Bool} (h : viewK C nt qs fuel c s ts ms = some ⟨ex, xs, bs, ok⟩) (hok : ok = true) (dec : List Bool) : Goes C w0 nt c s ex (mk ts xs bs dec) := goes_viewK hO hm h hok dec

theorem seq_viewK (hO : OrcOK C.P C.orc) (hm : C.P.follows .mixedOrders = true) {c : Code} {s s2 : St} {e : Ex} (ts : List Nat) (ms : List Md) {xs : List AV} {bs : List ABlk} {ok : Bool} {dec : List Bool} (hc : isSeq c = true) (h : viewK C nt qs fuel (cL c) s ts ms = some ⟨.normal, xs, bs, ok⟩) (hok : ok = true)
    (h2 : Goes C w0 nt (cR c) (mk ts xs bs dec) e s2) : Goes C w0 nt c s e s2 :=
  goes_seq hc (goes_viewK hO hm h hok dec) h2

theorem con_goesKF {f : FuncId} {xs : List AV} (h : okF C.P f xs.length = true) {dec : List Bool} {e : Ex} {s : St} (hgo : ∀ w0, Goes C w0 (ntOf C.P f) (codeOf C.P f) (St0 xs dec) e s) (hre : e = .ret ∨ e = .normal) {n : Nat} {ms : List Md} {r : HOut} (hs : finK C.P s (resOf C.P f) n ms = some r) (hok : r.ok = true) : Con C.P f xs n r.val r.blks := by
  unfold okF at h
  unfold ntOf codeOf at hgo
  unfold resOf at hs
  cases hf : C.P.funcs[f]? with
  | none => rw [hf] at h; cases h
  | some fn =>
    rw [hf] at h hgo hs
    dsimp only at h hgo hs
    simp only [Bool.and_eq_true, Nat.ble_eq] at h
    obtain ⟨⟨h1, h2⟩, h3⟩ := h
    cases hb : fn.body with
    | none => rw [hb] at h1; cases h1
    | some c =>
      rw [hb] at hgo
      exact con_goesK hf hb (by simpa [nameOk] using h2) rfl h3 hgo hre hs hok

theorem con_goesKC {P : Program} {es : List Entry} {d : Nat} {deep : FuncId → Bool} {f : FuncId} (nt : Nat) {xs : List AV} (h : (okF P f xs.length && Nat.beq (ntOf P f) nt) = true) {dec : List Bool} {e : Ex} {s : St} {n : Nat} (ms : List Md) {r : HOut} (hs : finK P s (resOf P f) n ms = some r) (hok : r.ok = true) (hre : e = .ret ∨ e = .normal)
    (hgo : ∀ w0, Goes (ctxD P es d deep) w0 nt (codeOf P f) (St0 xs dec) e s) : Con P f xs n r.val r.blks := by
  simp only [Bool.and_eq_true] at h
  have hn := Nat.eq_of_beq_eq_true h.2
  subst hn
  exact con_goesKF (C := ctxD P es d deep) h.1 hgo hre hs hok
end

/-! ### Tapes -/
structure TOp where
  k : Int
  a : Int
  b : Int
  c : Nat

def opL (o : TOp) : List AV := [.int .i64 o.k, .int .i64 o.a, .int .i64 o.b, .flt o.c]
def opsL : List TOp → List AV
  | [] => []
  | o :: os => .int .i64 o.k :: .int .i64 o.a :: .int .i64 o.b :: .flt o.c :: opsL os

def op0 : TOp := ⟨0, 0, 0, 0⟩

theorem opsL_append (xs ys : List TOp) : opsL (xs ++ ys) = opsL xs ++ opsL ys := by
  induction xs with
  | nil => rfl
  | cons x xs ih => simp [opsL, ih]
theorem opsL_length (xs : List TOp) : (opsL xs).length = 4 * xs.length := by
  induction xs with
  | nil => rfl
  | cons x xs ih => simp only [opsL, List.length_cons, ih]; omega
theorem opsL_scal (xs : List TOp) : (opsL xs).all AV.scal = true := by
  induction xs with
  | nil => rfl
  | cons x xs ih => simp [opsL, AV.scal, ih]
theorem opsL_noOwn (xs : List TOp) : (opsL xs).all AV.noOwn = true := by
  induction xs with
  | nil => rfl
  | cons x xs ih => simp [opsL, AV.noOwn, ih]
theorem opsL_one (xs : List TOp) : (opsL xs).all AV.one = true := by
  induction xs with
  | nil => rfl
  | cons x xs ih => simp [opsL, AV.one, ih]

theorem opsL_get : ∀ (xs : List TOp) (i : Nat), i < xs.length → (opsL xs).getD (4 * i) .undef = .int .i64 (xs.getD i op0).k ∧ (opsL xs).getD (4 * i + 1) .undef = .int .i64 (xs.getD i op0).a ∧ (opsL xs).getD (4 * i + 2) .undef = .int .i64 (xs.getD i op0).b ∧ (opsL xs).getD (4 * i + 3) .undef = .flt (xs.getD i op0).c
  | [], i, h => by simp at h
  | x :: xs, 0, _ => by simp [opsL]
  | x :: xs, i + 1, h => by
    have ih := opsL_get xs i (by simpa using h)
    have e : ∀ j, (opsL (x :: xs)).getD (4 * (i + 1) + j) .undef = (opsL xs).getD (4 * i + j) .undef := by
      intro j
      have : 4 * (i + 1) + j = (4 * i + j) + 4 := by omega
      rw [this]
      simp [opsL]
    have e0 := e 0
    simp only [Nat.add_zero] at e0
    rw [e0, e 1, e 2, e 3]
    simpa using ih

/-! ### Rows of floats, of whole numbers -/
def fltL (xs : List Nat) : List AV := xs.map AV.flt
def intL (xs : List Int) : List AV := xs.map (AV.int .i64)
theorem fltL_length (xs : List Nat) : (fltL xs).length = xs.length := by simp [fltL]
theorem intL_length (xs : List Int) : (intL xs).length = xs.length := by simp [intL]
theorem fltL_get {xs : List Nat} {i : Nat} (h : i < xs.length) : (fltL xs).getD i .undef = .flt (xs.getD i 0) := by
  simp [fltL, List.getD_eq_getElem?_getD, List.getElem?_eq_getElem h]
theorem intL_get {xs : List Int} {i : Nat} (h : i < xs.length) : (intL xs).getD i .undef = .int .i64 (xs.getD i 0) := by
  simp [intL, List.getD_eq_getElem?_getD, List.getElem?_eq_getElem h]
theorem fltL_noOwn (xs : List Nat) : (fltL xs).all AV.noOwn = true := by
  simp [fltL, List.all_eq_true, AV.noOwn]
theorem intL_noOwn (xs : List Int) : (intL xs).all AV.noOwn = true := by
  simp [intL, List.all_eq_true, AV.noOwn]
theorem fltL_scal (xs : List Nat) : (fltL xs).all AV.scal = true := by
  simp [fltL, List.all_eq_true, AV.scal]
theorem intL_scal (xs : List Int) : (intL xs).all AV.scal = true := by
  simp [intL, List.all_eq_true, AV.scal]
theorem fltL_append (xs ys : List Nat) : fltL (xs ++ ys) = fltL xs ++ fltL ys := by simp [fltL]
theorem intL_append (xs ys : List Int) : intL (xs ++ ys) = intL xs ++ intL ys := by simp [intL]
end Go.Eng
/- Leaves, part 12: what is nil as an empty row; fewer places told; cells given otherwise. No condition. -/
namespace Go.Eng
open Go Go.RowKit

section
variable {C : Ctx} {w0 : World} {nt : Nat}

theorem envZ_set : ∀ {ts : List Nat} {xs : List AV} {p : Nat} {y : AV} {t : Nat} {x : AV}, envZ ts (xs.set p y) t = some x → envZ ts xs t = some x ∨ (x = y ∧ ∃ z, xs[p]? = some z ∧ envZ ts xs t = some z)
  | [], xs, p, y, t, x, h => by cases xs <;> cases p <;> cases h
  | u :: us, [], p, y, t, x, h => by cases p <;> cases h
  | u :: us, z :: zs, 0, y, t, x, h => by
    simp only [List.set_cons_zero, envZ] at h ⊢
    by_cases htu : t = u
    · subst htu
      rw [upd_same] at h ⊢
      cases h
      exact .inr ⟨rfl, z, rfl, rfl⟩
    · rw [upd_other _ _ _ htu] at h ⊢
      exact .inl h
  | u :: us, z :: zs, p + 1, y, t, x, h => by
    simp only [List.set_cons_succ, envZ] at h ⊢
    by_cases htu : t = u
    · subst htu
      rw [upd_same] at h ⊢
      exact .inl h
    · rw [upd_other _ _ _ htu] at h ⊢
      have := envZ_set (ts := us) (xs := zs) h
      simpa using this

theorem heapL_snoc (b : ABlk) : ∀ (bs : List ABlk) (n i : Nat), heapL n (bs ++ [b]) i = upd (heapL n bs) (n + bs.length) (some b) i
  | [], n, i => rfl
  | c :: cs, n, i => by
    simp only [List.cons_append, heapL, List.length_cons]
    by_cases hi : i = n
    · subst hi
      rw [upd_same, upd_other _ _ _ (by omega), upd_same]
    · rw [upd_other _ _ _ hi, heapL_snoc b cs (n + 1) i]
      by_cases h2 : i = n + 1 + cs.length
      · subst h2
        rw [upd_same, show n + 1 + cs.length = n + (cs.length + 1) by omega, upd_same]
      · rw [upd_other _ _ _ h2, upd_other _ _ _ (by omega), upd_other _ _ _ hi]

/-- What is nil is an empty row of one's own. -/
theorem goes_nils {c : Code} {ts : List Nat} {xs : List AV} {bs : List ABlk} {dec dec' : List Bool} {ex : Ex} {s' : St} (p : Nat) (e : TypeId) (hp : xs[p]? = some .nils) (h : Goes C w0 nt c (mk ts (xs.set p (.slc bs.length 0 0)) (bs ++ [⟨[], e⟩]) dec') ex s') : Goes C w0 nt c (mk ts xs bs dec) ex s' := by
  refine ⟨fun {a w} R => h.of ?_⟩
  obtain ⟨⟨φ, im, RF, fφ⟩, fh⟩ := R
  have hφ : φ bs.length = none := fφ _ (Nat.le_refl _)
  refine ⟨⟨φ, im, ⟨?_, ?_, RF.size, RF.defers, RF.below⟩, fun i hi => fφ i ?_⟩, fun i hi => ?_⟩
  · have h1 := RF.hrep.nothing hφ e
    have he : (mk ts (xs.set p (.slc bs.length 0 0)) (bs ++ [⟨[], e⟩]) dec').heap = upd (mk ts xs bs dec).heap bs.length (some ⟨[], e⟩) := by
      funext i
      show heapL 0 (bs ++ [⟨[], e⟩]) i = upd (heapL 0 bs) bs.length (some ⟨[], e⟩) i
      rw [heapL_snoc, Nat.zero_add]
    rw [he]
    exact h1
  · intro t x ht
    rcases envZ_set ht with h1 | ⟨rfl, z, h1, h2⟩
    · exact RF.env t x h1
    · rw [hp] at h1
      cases h1
      obtain ⟨v, g1, g2⟩ := RF.env t _ h2
      cases g2
      exact ⟨_, g1, .slc0 _ _ _⟩
  · have : bs.length + 1 ≤ i := by simpa [mk] using hi
    show bs.length ≤ i
    omega
  · have : bs.length + 1 ≤ i := by simpa [mk] using hi
    show heapL 0 (bs ++ [⟨[], e⟩]) i = none
    rw [heapL_snoc, upd_other _ _ _ (by omega)]
    exact fh i (by show bs.length ≤ i; omega)

/-- A place that is not needed any more. -/
theorem goes_less {c : Code} {t : Nat} {x : AV} {ts : List Nat} {xs : List AV} {bs : List ABlk} {dec : List Bool} {s : St} {ex : Ex} (ht : ts.elem t = false) (h : Goes C w0 nt c s ex (mk (t :: ts) (x :: xs) bs dec)) : Goes C w0 nt c s ex (mk ts xs bs dec) := by
  refine ⟨fun {a w} R => Go.wp_mono (h.of R) fun z a' w' ⟨hz, hR⟩ => ⟨hz, ?_⟩⟩
  obtain ⟨⟨φ, im, RF, fφ⟩, fh⟩ := hR
  refine ⟨⟨φ, im, ⟨RF.hrep, fun u y hu => RF.env u y ?_, RF.size, RF.defers, RF.below⟩, fφ⟩, fh⟩
  show upd (envZ ts xs) t (some x) u = some y
  have hne : u ≠ t := by
    rintro rfl
    have : ∀ {ts : List Nat} {xs : List AV}, ts.elem u = false → envZ ts xs u = none := by
      intro ts
      induction ts with
      | nil => intro xs _; cases xs <;> rfl
      | cons v vs ih =>
        intro xs hv
        cases xs with
        | nil => rfl
        | cons z zs =>
          simp only [List.elem_eq_mem, List.mem_cons, decide_eq_false_iff_not, not_or] at hv
          simp only [envZ]
          rw [upd_other _ _ _ hv.1]
          exact ih (by simpa using hv.2)
    have hu' : envZ ts xs u = some y := hu
    rw [this ht] at hu'
    cases hu'
  rw [upd_other _ _ _ hne]
  exact hu
end

section
variable {σ : List (Nat × List AV)} {ids : List Nat} {n : Nat}

theorem SubP.same {A : List AV} (hA : A.all AV.noOwn = true) : SubP true σ ids n A A := by
  refine ⟨rfl, fun j x y hx hy => .inl ?_⟩
  rw [hx] at hy
  cases hy
  exact ⟨rfl, List.all_eq_true.1 hA x (List.mem_of_getElem? hx)⟩

theorem SubP.append {A B X Y : List AV} (h1 : SubP true σ ids n A B) (h2 : SubP true σ ids n X Y) : SubP true σ ids n (A ++ X) (B ++ Y) := by
  refine ⟨by simp [h1.1, h2.1], fun j x y hx hy => ?_⟩
  by_cases hj : j < A.length
  · rw [List.getElem?_append_left hj] at hx
    rw [List.getElem?_append_left (by rw [h1.1]; exact hj)] at hy
    exact h1.2 j x y hx hy
  · rw [List.getElem?_append_right (by omega)] at hx
    rw [List.getElem?_append_right (by rw [h1.1]; omega), h1.1] at hy
    exact h2.2 _ x y hx hy

theorem SubP.nil : SubP true σ ids n [] [] := ⟨rfl, fun j x y hx => by simp at hx⟩
theorem SubP.cons {x y : AV} {X Y : List AV} (h : (x = y ∧ x.noOwn = true) ∨ sub true σ ids n 4096 x = some y) (h2 : SubP true σ ids n X Y) : SubP true σ ids n (x :: X) (y :: Y) := by
  refine ⟨by simp [h2.1], fun j a b ha hb => ?_⟩
  cases j with
  | zero => simp at ha hb; subst ha hb; exact h
  | succ j => exact h2.2 j a b (by simpa using ha) (by simpa using hb)
end
end Go.Eng
/- Leaves, part 13: what fields and their changes are, over any kind of numbers; registers as cells. No condition. -/
namespace Go.Eng
open Go Go.RowKit

/-- Numbers of a kind. -/
structure Kd (T : Type) where
  of : Nat → T
  add : T → T → T
  sub : T → T → T
  mul : T → T → T
  div : T → T → T

/-- A value, and how it changes with each variable. -/
structure Rg (T : Type) where
  v : T
  d : List T

section
variable {T : Type} (K : Kd T) (z : T)

def Kd.op (k : Int) (u v : T) : T := if k = 2 then K.add u v else if k = 3 then K.sub u v else if k = 4 then K.mul u v else K.div u v
def rAt (rs : List (Rg T)) (i : Int) : Rg T := rs.getD i.toNat ⟨z, []⟩
def valR (xs : List T) (rs : List (Rg T)) (o : TOp) : T :=
  if o.k = 0 then K.of o.c else if o.k = 1 then xs.getD o.a.toNat z else K.op o.k (rAt z rs o.a).v (rAt z rs o.b).v
def slopeR (rs : List (Rg T)) (o : TOp) (q : T) (i : Nat) : T :=
  if o.k = 1 then (if o.a = (i : Int) then K.of 4607182418800017408 else K.of 0) else if o.k = 0 then K.of 0 else
  if o.k = 2 then K.add ((rAt z rs o.a).d.getD i z) ((rAt z rs o.b).d.getD i z) else
  if o.k = 3 then K.sub ((rAt z rs o.a).d.getD i z) ((rAt z rs o.b).d.getD i z) else
  if o.k = 4 then K.add (K.mul ((rAt z rs o.a).d.getD i z) (rAt z rs o.b).v) (K.mul (rAt z rs o.a).v ((rAt z rs o.b).d.getD i z)) else
  K.div (K.sub ((rAt z rs o.a).d.getD i z) (K.mul q ((rAt z rs o.b).d.getD i z))) (rAt z rs o.b).v
def stepR (N : Nat) (xs : List T) (rs : List (Rg T)) (o : TOp) : Rg T :=
  ⟨valR K z xs rs o, (List.range N).map (slopeR K z rs o (valR K z xs rs o))⟩
def runR (N : Nat) (xs : List T) (ops : List TOp) : Nat → List (Rg T)
  | 0 => []
  | i + 1 => runR N xs ops i ++ [stepR K z N xs (runR N xs ops i) (ops.getD i op0)]

theorem runR_length (N : Nat) (xs : List T) (ops : List TOp) : ∀ i, (runR K z N xs ops i).length = i
  | 0 => rfl
  | i + 1 => by simp [runR, runR_length N xs ops i]

theorem stepR_d (N : Nat) (xs : List T) (rs : List (Rg T)) (o : TOp) : (stepR K z N xs rs o).d.length = N := by simp [stepR]

theorem runR_d (N : Nat) (xs : List T) (ops : List TOp) : ∀ i, ∀ r ∈ runR K z N xs ops i, r.d.length = N
  | 0, r, h => by simp [runR] at h
  | i + 1, r, h => by
    simp only [runR, List.mem_append, List.mem_singleton] at h
    rcases h with h | rfl
    · exact runR_d N xs ops i r h
    · exact stepR_d _ _ _ _ _ _
end

def kF : Kd Nat := ⟨fun c => c, fadd, fsub, fmul, fdiv⟩

/-- Registers of floats as cells. -/
def rgF (N : Nat) : List (Rg Nat) → List AV
  | [] => []
  | r :: rs => .flt r.v :: .snap (fltL r.d) N :: rgF N rs

theorem rgF_append (N : Nat) (xs ys : List (Rg Nat)) : rgF N (xs ++ ys) = rgF N xs ++ rgF N ys := by
  induction xs with
  | nil => rfl
  | cons x xs ih => simp [rgF, ih]
theorem rgF_length (N : Nat) (xs : List (Rg Nat)) : (rgF N xs).length = 2 * xs.length := by
  induction xs with
  | nil => rfl
  | cons x xs ih => simp only [rgF, List.length_cons, ih]; omega
theorem rgF_noOwn (N : Nat) (xs : List (Rg Nat)) : (rgF N xs).all AV.noOwn = true := by
  induction xs with
  | nil => rfl
  | cons x xs ih => simp [rgF, AV.noOwn, ih]
theorem rgF_get (N : Nat) : ∀ (xs : List (Rg Nat)) (i : Nat), i < xs.length → (rgF N xs).getD (2 * i) .undef = .flt (xs.getD i ⟨0, []⟩).v ∧ (rgF N xs).getD (2 * i + 1) .undef = .snap (fltL (xs.getD i ⟨0, []⟩).d) N
  | [], i, h => by simp at h
  | x :: xs, 0, _ => by simp [rgF]
  | x :: xs, i + 1, h => by
    have ih := rgF_get N xs i (by simpa using h)
    have e : ∀ j, (rgF N (x :: xs)).getD (2 * (i + 1) + j) .undef = (rgF N xs).getD (2 * i + j) .undef := by
      intro j
      have : 2 * (i + 1) + j = (2 * i + j) + 2 := by omega
      rw [this]
      simp [rgF]
    have e0 := e 0
    simp only [Nat.add_zero] at e0
    rw [e0, e 1]
    simpa using ih
end Go.Eng
/- From-tos of the document (enveloperef2), part 1: from the least to the greatest of four, round by round; quotients. Condition: as each piece says. Written by wip/tools/kg.py. -/
namespace Go.Eng.Try
open Go Go.Eng Go.RowKit Go.Proofs.Try
noncomputable abbrev CU0 : Ctx := ctx prog es4 8
noncomputable def arC : Code := codeOf prog 177
noncomputable def arBody : Code := cL (cL (cR (cL (cR (cR arC)))))

theorem OU0 : OrcOK CU0.P CU0.orc := ctx_ok mixed es4_ok 8

theorem rMake1 (lo hi : Nat) (nb : Nat) (hok : ((fle lo hi && true)) = true) : Con prog 175 [.flt lo, .flt hi] nb (AV.agg [.flt lo, .flt hi]) [] :=
  con_evF OU0 mixed (qs := [7]) (dec := [true]) (r := ⟨(AV.agg [.flt lo, .flt hi]), [], (fle lo hi && true)⟩) (by kernel_rfl) hok
theorem rMake0 (lo hi : Nat) (nb : Nat) (hok : ((!fle lo hi && true)) = true) : Con prog 175 [.flt lo, .flt hi] nb (AV.agg [.flt 18442240474082181120, .flt 9218868437227405312]) [] :=
  con_evF OU0 mixed (qs := [7]) (dec := [false]) (r := ⟨(AV.agg [.flt 18442240474082181120, .flt 9218868437227405312]), [], (!fle lo hi && true)⟩) (by kernel_rfl) hok
theorem rHol1 (a b : Nat) (nb : Nat) (hok : ((fle a 0 && true)) = true) : Con prog 178 [.agg [.flt a, .flt b]] nb (AV.bool (fle 0 b)) [] :=
  con_evF OU0 mixed (qs := [6]) (dec := [true]) (r := ⟨(AV.bool (fle 0 b)), [], (fle a 0 && true)⟩) (by kernel_rfl) hok
theorem rHol0 (a b : Nat) (nb : Nat) (hok : ((!fle a 0 && true)) = true) : Con prog 178 [.agg [.flt a, .flt b]] nb (AV.bool false) [] :=
  con_evF OU0 mixed (qs := [6]) (dec := [false]) (r := ⟨(AV.bool false), [], (!fle a 0 && true)⟩) (by kernel_rfl) hok
theorem iDiv1 (a b c d : Nat) (nb : Nat) (hok : ((fle c 0 && fle 0 d && true)) = true) : Con prog 138 [.agg [.flt a, .flt b], .agg [.flt c, .flt d]] nb (AV.agg [.flt 18442240474082181120, .flt 9218868437227405312]) [] :=
  con_evF OU0 mixed (qs := [6]) (dec := [true]) (r := ⟨(AV.agg [.flt 18442240474082181120, .flt 9218868437227405312]), [], (fle c 0 && fle 0 d && true)⟩) (by kernel_rfl) hok
theorem iDiv0 (a b c d : Nat) (nb : Nat) (hok : ((!(fle c 0 && fle 0 d) && true)) = true) : Con prog 138 [.agg [.flt a, .flt b], .agg [.flt c, .flt d]] nb (AV.agg [.flt (spanLo (fdiv a c) (fdiv a d) (fdiv b c) (fdiv b d)), .flt (spanHi (fdiv a c) (fdiv a d) (fdiv b c) (fdiv b d))]) [] :=
  con_evF OU0 mixed (qs := [6]) (dec := [false]) (r := ⟨(AV.agg [.flt (spanLo (fdiv a c) (fdiv a d) (fdiv b c) (fdiv b d)), .flt (spanHi (fdiv a c) (fdiv a d) (fdiv b c) (fdiv b d))]), [], (!(fle c 0 && fle 0 d) && true)⟩) (by kernel_rfl) hok
theorem con_rMake (lo hi n : Nat) : Con prog 175 [.flt lo, .flt hi] n (ivA (mkLo lo hi) (mkHi lo hi)) [] := by
  unfold mkLo mkHi
  cases h : fle lo hi with
  | true => exact rMake1 lo hi n (by rw [h]; rfl)
  | false => exact rMake0 lo hi n (by rw [h]; rfl)
def erMake : Entry := ⟨175, fun xs _ => match xs with
  | [.flt lo, .flt hi] => some ⟨ivA (mkLo lo hi) (mkHi lo hi), [], true⟩
  | _ => none⟩
theorem erMake_ok : EntryOK prog erMake := by
  intro xs n r h hok
  simp only [erMake] at h
  split at h
  · cases h; exact con_rMake _ _ n
  · cases h
def esU1 : List Entry := erMake :: es4
theorem esU1_ok : ∀ e ∈ esU1, EntryOK prog e := by
  intro e he
  rcases List.mem_cons.1 he with rfl | he
  · exact erMake_ok
  · exact es4_ok e he
noncomputable abbrev CU1 : Ctx := ctx prog esU1 8
theorem OU1 : OrcOK CU1.P CU1.orc := ctx_ok mixed esU1_ok 8

theorem arA (a b c d : Nat) (w0 : World) (dec1 : List Bool) : Goes CU1 w0 43 (cL arC) (St0 [.agg [.flt a, .flt b, .flt c, .flt d]] []) Ex.normal (mk [1,2] [.ptr 0 0, .ptr 1 0] [ABlk.mk [.flt a, .flt b, .flt c, .flt d] 100, ABlk.mk [.flt 0, .flt 0] 26] dec1) :=
  goes_view' OU1 mixed (qs := []) (fuel := 8) (by kernel_rfl) rfl dec1
theorem arB (a b c d : Nat) (w0 : World) (dec0 dec1 : List Bool) : Goes CU1 w0 43 (cL (cR arC)) (mk [1,2] [.ptr 0 0, .ptr 1 0] [⟨[.flt a, .flt b, .flt c, .flt d], 100⟩, ⟨[.flt 0, .flt 0], 26⟩] dec0) Ex.normal (mk [1,2,3,4] [.ptr 0 0, .ptr 1 0, .flt a, .flt a] [ABlk.mk [.flt a, .flt b, .flt c, .flt d] 100, ABlk.mk [.flt 0, .flt 0] 26] dec1) :=
  goes_re (dec := []) (goes_view' OU1 mixed (qs := []) (fuel := 8) (by kernel_rfl) rfl dec1)
theorem arD (a b c d : Nat) (lo hi : Nat) (w0 : World) (dec0 dec1 : List Bool) : Goes CU1 w0 43 (cL (cL (cR (cR arC)))) (mk [1,2,3,4] [.ptr 0 0, .ptr 1 0, .flt lo, .flt hi] [⟨[.flt a, .flt b, .flt c, .flt d], 100⟩, ⟨[.flt 0, .flt 0], 26⟩] dec0) Ex.normal (mk [1,2,3,4,5] [.ptr 0 0, .ptr 1 0, .flt lo, .flt hi, .int .i64 0] [ABlk.mk [.flt a, .flt b, .flt c, .flt d] 100, ABlk.mk [.flt 0, .flt 0] 26] dec1) :=
  goes_re (dec := []) (goes_view' OU1 mixed (qs := []) (fuel := 8) (by kernel_rfl) rfl dec1)
theorem arI100 (a b c d : Nat) (lo hi i x : Nat) (w0 : World) (dec0 dec1 : List Bool) (hok : ((fne x x && (pb (AV.flt (AV.toFlt (List.getD [.flt a, .flt b, .flt c, .flt d] (0 + Int.toNat ↑i * 1) .undef)) = AV.flt x) && (Nat.blt (0 + Int.toNat ↑i * 1) 4 && AV.isFlt (List.getD [.flt a, .flt b, .flt c, .flt d] (0 + Int.toNat ↑i * 1) .undef)) && (decide ((0 : Int) ≤ (↑i : Int) ∧ (↑i : Int) < (4 : Int)) && (pb (AV.flt (AV.toFlt (List.getD [.flt a, .flt b, .flt c, .flt d] (0 + Int.toNat ↑i * 1) .undef)) = AV.flt x) && (Nat.blt (0 + Int.toNat ↑i * 1) 4 && AV.isFlt (List.getD [.flt a, .flt b, .flt c, .flt d] (0 + Int.toNat ↑i * 1) .undef)) && (decide ((0 : Int) ≤ (↑i : Int) ∧ (↑i : Int) < (4 : Int)) && (decide ((↑i : Int) < (4 : Int)) && true))))))) = true) : Goes CU1 w0 43 (arBody) (mk [1,2,3,4,5] [.ptr 0 0, .ptr 1 0, .flt lo, .flt hi, .int .i64 (i : Int)] [⟨[.flt a, .flt b, .flt c, .flt d], 100⟩, ⟨[.flt 0, .flt 0], 26⟩] dec0) Ex.ret (mk [2] [.ptr 0 0] [ABlk.mk [.flt 18442240474082181120, .flt 9218868437227405312] 26] dec1) :=
  goes_re (dec := [true,true]) (goes_O (l := [(16, .flt x), (19, .flt x)]) (goes_view' (ctxO_ok OU1 _) mixed (qs := [11,20,26,34]) (fuel := 8) (by kernel_rfl) hok dec1))
theorem arI000 (a b c d : Nat) (lo hi i x : Nat) (w0 : World) (dec0 dec1 : List Bool) (hok : ((!fgt x hi && (pb (AV.flt (AV.toFlt (List.getD [.flt a, .flt b, .flt c, .flt d] (0 + Int.toNat ↑i * 1) .undef)) = AV.flt x) && (Nat.blt (0 + Int.toNat ↑i * 1) 4 && AV.isFlt (List.getD [.flt a, .flt b, .flt c, .flt d] (0 + Int.toNat ↑i * 1) .undef)) && (decide ((0 : Int) ≤ (↑i : Int) ∧ (↑i : Int) < (4 : Int)) && (!flt x lo && (pb (AV.flt (AV.toFlt (List.getD [.flt a, .flt b, .flt c, .flt d] (0 + Int.toNat ↑i * 1) .undef)) = AV.flt x) && (Nat.blt (0 + Int.toNat ↑i * 1) 4 && AV.isFlt (List.getD [.flt a, .flt b, .flt c, .flt d] (0 + Int.toNat ↑i * 1) .undef)) && (decide ((0 : Int) ≤ (↑i : Int) ∧ (↑i : Int) < (4 : Int)) && (!fne x x && (pb (AV.flt (AV.toFlt (List.getD [.flt a, .flt b, .flt c, .flt d] (0 + Int.toNat ↑i * 1) .undef)) = AV.flt x) && (Nat.blt (0 + Int.toNat ↑i * 1) 4 && AV.isFlt (List.getD [.flt a, .flt b, .flt c, .flt d] (0 + Int.toNat ↑i * 1) .undef)) && (decide ((0 : Int) ≤ (↑i : Int) ∧ (↑i : Int) < (4 : Int)) && (pb (AV.flt (AV.toFlt (List.getD [.flt a, .flt b, .flt c, .flt d] (0 + Int.toNat ↑i * 1) .undef)) = AV.flt x) && (Nat.blt (0 + Int.toNat ↑i * 1) 4 && AV.isFlt (List.getD [.flt a, .flt b, .flt c, .flt d] (0 + Int.toNat ↑i * 1) .undef)) && (decide ((0 : Int) ≤ (↑i : Int) ∧ (↑i : Int) < (4 : Int)) && (decide ((↑i : Int) < (4 : Int)) && true))))))))))))) = true) : Goes CU1 w0 43 (arBody) (mk [1,2,3,4,5] [.ptr 0 0, .ptr 1 0, .flt lo, .flt hi, .int .i64 (i : Int)] [⟨[.flt a, .flt b, .flt c, .flt d], 100⟩, ⟨[.flt 0, .flt 0], 26⟩] dec0) Ex.normal (mk [1,2,3,4,5] [.ptr 0 0, .ptr 1 0, .flt lo, .flt hi, .int .i64 (IntKind.wrap IntKind.i64 ((↑i : Int) + (1 : Int)))] [ABlk.mk [.flt a, .flt b, .flt c, .flt d] 100, ABlk.mk [.flt 0, .flt 0] 26] dec1) :=
  goes_re (dec := [true,false,false,false]) (goes_O (l := [(16, .flt x), (19, .flt x), (24, .flt x), (32, .flt x)]) (goes_view' (ctxO_ok OU1 _) mixed (qs := [11,20,26,34]) (fuel := 8) (by kernel_rfl) hok dec1))
theorem arI001 (a b c d : Nat) (lo hi i x : Nat) (w0 : World) (dec0 dec1 : List Bool) (hok : ((pb (AV.flt (AV.toFlt (List.getD [.flt a, .flt b, .flt c, .flt d] (0 + Int.toNat ↑i * 1) .undef)) = AV.flt x) && (Nat.blt (0 + Int.toNat ↑i * 1) 4 && AV.isFlt (List.getD [.flt a, .flt b, .flt c, .flt d] (0 + Int.toNat ↑i * 1) .undef)) && (decide ((0 : Int) ≤ (↑i : Int) ∧ (↑i : Int) < (4 : Int)) && (fgt x hi && (pb (AV.flt (AV.toFlt (List.getD [.flt a, .flt b, .flt c, .flt d] (0 + Int.toNat ↑i * 1) .undef)) = AV.flt x) && (Nat.blt (0 + Int.toNat ↑i * 1) 4 && AV.isFlt (List.getD [.flt a, .flt b, .flt c, .flt d] (0 + Int.toNat ↑i * 1) .undef)) && (decide ((0 : Int) ≤ (↑i : Int) ∧ (↑i : Int) < (4 : Int)) && (!flt x lo && (pb (AV.flt (AV.toFlt (List.getD [.flt a, .flt b, .flt c, .flt d] (0 + Int.toNat ↑i * 1) .undef)) = AV.flt x) && (Nat.blt (0 + Int.toNat ↑i * 1) 4 && AV.isFlt (List.getD [.flt a, .flt b, .flt c, .flt d] (0 + Int.toNat ↑i * 1) .undef)) && (decide ((0 : Int) ≤ (↑i : Int) ∧ (↑i : Int) < (4 : Int)) && (!fne x x && (pb (AV.flt (AV.toFlt (List.getD [.flt a, .flt b, .flt c, .flt d] (0 + Int.toNat ↑i * 1) .undef)) = AV.flt x) && (Nat.blt (0 + Int.toNat ↑i * 1) 4 && AV.isFlt (List.getD [.flt a, .flt b, .flt c, .flt d] (0 + Int.toNat ↑i * 1) .undef)) && (decide ((0 : Int) ≤ (↑i : Int) ∧ (↑i : Int) < (4 : Int)) && (pb (AV.flt (AV.toFlt (List.getD [.flt a, .flt b, .flt c, .flt d] (0 + Int.toNat ↑i * 1) .undef)) = AV.flt x) && (Nat.blt (0 + Int.toNat ↑i * 1) 4 && AV.isFlt (List.getD [.flt a, .flt b, .flt c, .flt d] (0 + Int.toNat ↑i * 1) .undef)) && (decide ((0 : Int) ≤ (↑i : Int) ∧ (↑i : Int) < (4 : Int)) && (decide ((↑i : Int) < (4 : Int)) && true))))))))))))))) = true) : Goes CU1 w0 43 (arBody) (mk [1,2,3,4,5] [.ptr 0 0, .ptr 1 0, .flt lo, .flt hi, .int .i64 (i : Int)] [⟨[.flt a, .flt b, .flt c, .flt d], 100⟩, ⟨[.flt 0, .flt 0], 26⟩] dec0) Ex.normal (mk [1,2,3,4,5] [.ptr 0 0, .ptr 1 0, .flt lo, .flt x, .int .i64 (IntKind.wrap IntKind.i64 ((↑i : Int) + (1 : Int)))] [ABlk.mk [.flt a, .flt b, .flt c, .flt d] 100, ABlk.mk [.flt 0, .flt 0] 26] dec1) :=
  goes_re (dec := [true,false,false,true]) (goes_O (l := [(16, .flt x), (19, .flt x), (24, .flt x), (32, .flt x), (37, .flt x)]) (goes_view' (ctxO_ok OU1 _) mixed (qs := [11,20,26,34]) (fuel := 8) (by kernel_rfl) hok dec1))
theorem arI010 (a b c d : Nat) (lo hi i x : Nat) (w0 : World) (dec0 dec1 : List Bool) (hok : ((!fgt x hi && (pb (AV.flt (AV.toFlt (List.getD [.flt a, .flt b, .flt c, .flt d] (0 + Int.toNat ↑i * 1) .undef)) = AV.flt x) && (Nat.blt (0 + Int.toNat ↑i * 1) 4 && AV.isFlt (List.getD [.flt a, .flt b, .flt c, .flt d] (0 + Int.toNat ↑i * 1) .undef)) && (decide ((0 : Int) ≤ (↑i : Int) ∧ (↑i : Int) < (4 : Int)) && (pb (AV.flt (AV.toFlt (List.getD [.flt a, .flt b, .flt c, .flt d] (0 + Int.toNat ↑i * 1) .undef)) = AV.flt x) && (Nat.blt (0 + Int.toNat ↑i * 1) 4 && AV.isFlt (List.getD [.flt a, .flt b, .flt c, .flt d] (0 + Int.toNat ↑i * 1) .undef)) && (decide ((0 : Int) ≤ (↑i : Int) ∧ (↑i : Int) < (4 : Int)) && (flt x lo && (pb (AV.flt (AV.toFlt (List.getD [.flt a, .flt b, .flt c, .flt d] (0 + Int.toNat ↑i * 1) .undef)) = AV.flt x) && (Nat.blt (0 + Int.toNat ↑i * 1) 4 && AV.isFlt (List.getD [.flt a, .flt b, .flt c, .flt d] (0 + Int.toNat ↑i * 1) .undef)) && (decide ((0 : Int) ≤ (↑i : Int) ∧ (↑i : Int) < (4 : Int)) && (!fne x x && (pb (AV.flt (AV.toFlt (List.getD [.flt a, .flt b, .flt c, .flt d] (0 + Int.toNat ↑i * 1) .undef)) = AV.flt x) && (Nat.blt (0 + Int.toNat ↑i * 1) 4 && AV.isFlt (List.getD [.flt a, .flt b, .flt c, .flt d] (0 + Int.toNat ↑i * 1) .undef)) && (decide ((0 : Int) ≤ (↑i : Int) ∧ (↑i : Int) < (4 : Int)) && (pb (AV.flt (AV.toFlt (List.getD [.flt a, .flt b, .flt c, .flt d] (0 + Int.toNat ↑i * 1) .undef)) = AV.flt x) && (Nat.blt (0 + Int.toNat ↑i * 1) 4 && AV.isFlt (List.getD [.flt a, .flt b, .flt c, .flt d] (0 + Int.toNat ↑i * 1) .undef)) && (decide ((0 : Int) ≤ (↑i : Int) ∧ (↑i : Int) < (4 : Int)) && (decide ((↑i : Int) < (4 : Int)) && true))))))))))))))) = true) : Goes CU1 w0 43 (arBody) (mk [1,2,3,4,5] [.ptr 0 0, .ptr 1 0, .flt lo, .flt hi, .int .i64 (i : Int)] [⟨[.flt a, .flt b, .flt c, .flt d], 100⟩, ⟨[.flt 0, .flt 0], 26⟩] dec0) Ex.normal (mk [1,2,3,4,5] [.ptr 0 0, .ptr 1 0, .flt x, .flt hi, .int .i64 (IntKind.wrap IntKind.i64 ((↑i : Int) + (1 : Int)))] [ABlk.mk [.flt a, .flt b, .flt c, .flt d] 100, ABlk.mk [.flt 0, .flt 0] 26] dec1) :=
  goes_re (dec := [true,false,true,false]) (goes_O (l := [(16, .flt x), (19, .flt x), (24, .flt x), (32, .flt x), (29, .flt x)]) (goes_view' (ctxO_ok OU1 _) mixed (qs := [11,20,26,34]) (fuel := 8) (by kernel_rfl) hok dec1))
theorem arI011 (a b c d : Nat) (lo hi i x : Nat) (w0 : World) (dec0 dec1 : List Bool) (hok : ((pb (AV.flt (AV.toFlt (List.getD [.flt a, .flt b, .flt c, .flt d] (0 + Int.toNat ↑i * 1) .undef)) = AV.flt x) && (Nat.blt (0 + Int.toNat ↑i * 1) 4 && AV.isFlt (List.getD [.flt a, .flt b, .flt c, .flt d] (0 + Int.toNat ↑i * 1) .undef)) && (decide ((0 : Int) ≤ (↑i : Int) ∧ (↑i : Int) < (4 : Int)) && (fgt x hi && (pb (AV.flt (AV.toFlt (List.getD [.flt a, .flt b, .flt c, .flt d] (0 + Int.toNat ↑i * 1) .undef)) = AV.flt x) && (Nat.blt (0 + Int.toNat ↑i * 1) 4 && AV.isFlt (List.getD [.flt a, .flt b, .flt c, .flt d] (0 + Int.toNat ↑i * 1) .undef)) && (decide ((0 : Int) ≤ (↑i : Int) ∧ (↑i : Int) < (4 : Int)) && (pb (AV.flt (AV.toFlt (List.getD [.flt a, .flt b, .flt c, .flt d] (0 + Int.toNat ↑i * 1) .undef)) = AV.flt x) && (Nat.blt (0 + Int.toNat ↑i * 1) 4 && AV.isFlt (List.getD [.flt a, .flt b, .flt c, .flt d] (0 + Int.toNat ↑i * 1) .undef)) && (decide ((0 : Int) ≤ (↑i : Int) ∧ (↑i : Int) < (4 : Int)) && (flt x lo && (pb (AV.flt (AV.toFlt (List.getD [.flt a, .flt b, .flt c, .flt d] (0 + Int.toNat ↑i * 1) .undef)) = AV.flt x) && (Nat.blt (0 + Int.toNat ↑i * 1) 4 && AV.isFlt (List.getD [.flt a, .flt b, .flt c, .flt d] (0 + Int.toNat ↑i * 1) .undef)) && (decide ((0 : Int) ≤ (↑i : Int) ∧ (↑i : Int) < (4 : Int)) && (!fne x x && (pb (AV.flt (AV.toFlt (List.getD [.flt a, .flt b, .flt c, .flt d] (0 + Int.toNat ↑i * 1) .undef)) = AV.flt x) && (Nat.blt (0 + Int.toNat ↑i * 1) 4 && AV.isFlt (List.getD [.flt a, .flt b, .flt c, .flt d] (0 + Int.toNat ↑i * 1) .undef)) && (decide ((0 : Int) ≤ (↑i : Int) ∧ (↑i : Int) < (4 : Int)) && (pb (AV.flt (AV.toFlt (List.getD [.flt a, .flt b, .flt c, .flt d] (0 + Int.toNat ↑i * 1) .undef)) = AV.flt x) && (Nat.blt (0 + Int.toNat ↑i * 1) 4 && AV.isFlt (List.getD [.flt a, .flt b, .flt c, .flt d] (0 + Int.toNat ↑i * 1) .undef)) && (decide ((0 : Int) ≤ (↑i : Int) ∧ (↑i : Int) < (4 : Int)) && (decide ((↑i : Int) < (4 : Int)) && true))))))))))))))))) = true) : Goes CU1 w0 43 (arBody) (mk [1,2,3,4,5] [.ptr 0 0, .ptr 1 0, .flt lo, .flt hi, .int .i64 (i : Int)] [⟨[.flt a, .flt b, .flt c, .flt d], 100⟩, ⟨[.flt 0, .flt 0], 26⟩] dec0) Ex.normal (mk [1,2,3,4,5] [.ptr 0 0, .ptr 1 0, .flt x, .flt x, .int .i64 (IntKind.wrap IntKind.i64 ((↑i : Int) + (1 : Int)))] [ABlk.mk [.flt a, .flt b, .flt c, .flt d] 100, ABlk.mk [.flt 0, .flt 0] 26] dec1) :=
  goes_re (dec := [true,false,true,true]) (goes_O (l := [(16, .flt x), (19, .flt x), (24, .flt x), (32, .flt x), (29, .flt x), (37, .flt x)]) (goes_view' (ctxO_ok OU1 _) mixed (qs := [11,20,26,34]) (fuel := 8) (by kernel_rfl) hok dec1))
theorem arX (a b c d : Nat) (lo hi i : Nat) (w0 : World) (dec0 dec1 : List Bool) (hok : ((!decide ((↑i : Int) < (4 : Int)) && true)) = true) : Goes CU1 w0 43 (arBody) (mk [1,2,3,4,5] [.ptr 0 0, .ptr 1 0, .flt lo, .flt hi, .int .i64 (i : Int)] [⟨[.flt a, .flt b, .flt c, .flt d], 100⟩, ⟨[.flt 0, .flt 0], 26⟩] dec0) (Ex.exit 0) (mk [2,3,4] [.ptr 0 0, .flt lo, .flt hi] [ABlk.mk [.flt 0, .flt 0] 26] dec1) :=
  goes_re (dec := [false]) (goes_view' OU1 mixed (qs := [11]) (fuel := 8) (by kernel_rfl) hok dec1)
theorem arE (lo hi : Nat) (w0 : World) (dec0 dec1 : List Bool) : Goes CU1 w0 43 (cR (cR (cR arC))) (mk [2,3,4] [.ptr 0 0, .flt lo, .flt hi] [⟨[.flt 0, .flt 0], 26⟩] dec0) Ex.ret (mk [2] [.ptr 0 0] [ABlk.mk [.flt (mkLo (fdown lo) (fup hi)), .flt (mkHi (fdown lo) (fup hi))] 26] dec1) :=
  goes_re (dec := []) (goes_view' OU1 mixed (qs := []) (fuel := 8) (by kernel_rfl) rfl dec1)
end Go.Eng.Try
/- From-tos of the document (enveloperef2), part 2: contracts; quotients of both; numbers of a kind that are from-tos. No condition. Written by wip/tools/genU2.py. -/
namespace Go.Eng
open Go Go.RowKit Go.Eng.Try

def divLo (a b c d : Nat) : Nat := bif fle c 0 && fle 0 d then ninfB else spanLo (fdiv a c) (fdiv a d) (fdiv b c) (fdiv b d)
def divHi (a b c d : Nat) : Nat := bif fle c 0 && fle 0 d then infB else spanHi (fdiv a c) (fdiv a d) (fdiv b c) (fdiv b d)

/-- From-tos as numbers of a kind. -/
def kI : Kd (Nat × Nat) where
  of c := (c, c)
  add x y := (outLo (fadd x.1 y.1) (fadd x.2 y.2), outHi (fadd x.1 y.1) (fadd x.2 y.2))
  sub x y := (outLo (fsub x.1 y.2) (fsub x.2 y.1), outHi (fsub x.1 y.2) (fsub x.2 y.1))
  mul x y := (mulLo x.1 x.2 y.1 y.2, mulHi x.1 x.2 y.1 y.2)
  div x y := (divLo x.1 x.2 y.1 y.2, divHi x.1 x.2 y.1 y.2)

def ivV (x : Nat × Nat) : AV := .agg [.flt x.1, .flt x.2]

theorem and_t' {a b : Bool} (ha : a = true) (hb : b = true) : (a && b) = true := by rw [ha, hb]; rfl

namespace Try
open Go.Proofs.Try

def arS (a b c d lo hi i : Nat) : St := mk [1,2,3,4,5] [.ptr 0 0, .ptr 1 0, .flt lo, .flt hi, .int .i64 (i : Int)] [⟨[.flt a, .flt b, .flt c, .flt d], 100⟩, ⟨[.flt 0, .flt 0], 26⟩] []
def arLo (a b c d : Nat) : Nat → Nat
  | 0 => a
  | 1 => a
  | 2 => lesser b a
  | 3 => lesser c (lesser b a)
  | _ => spLo a b c d
def arHi (a b c d : Nat) : Nat → Nat
  | 0 => a
  | 1 => a
  | 2 => greater b a
  | 3 => greater c (greater b a)
  | _ => spHi a b c d

theorem arRound0 (a b c d lo hi : Nat) (w0 : World) (h : fne a a = false) : Goes CU1 w0 43 arBody (arS a b c d lo hi 0) .normal (arS a b c d (lesser a lo) (greater a hi) 1) := by
  unfold lesser greater
  cases h1 : flt a lo with
  | true =>
    cases h2 : fgt a hi with
    | true => exact arI011 a b c d lo hi 0 a w0 [] [] (by
      repeat' (with_reducible apply and_t')
      all_goals first
        | rfl
        | exact pb_of rfl
        | assumption
        | (simp only [*]; rfl))
    | false => exact arI010 a b c d lo hi 0 a w0 [] [] (by
      repeat' (with_reducible apply and_t')
      all_goals first
        | rfl
        | exact pb_of rfl
        | assumption
        | (simp only [*]; rfl))
  | false =>
    cases h2 : fgt a hi with
    | true => exact arI001 a b c d lo hi 0 a w0 [] [] (by
      repeat' (with_reducible apply and_t')
      all_goals first
        | rfl
        | exact pb_of rfl
        | assumption
        | (simp only [*]; rfl))
    | false => exact arI000 a b c d lo hi 0 a w0 [] [] (by
      repeat' (with_reducible apply and_t')
      all_goals first
        | rfl
        | exact pb_of rfl
        | assumption
        | (simp only [*]; rfl))
theorem arNan0 (a b c d lo hi : Nat) (w0 : World) (h : fne a a = true) : Goes CU1 w0 43 arBody (arS a b c d lo hi 0) .ret (mk [2] [.ptr 0 0] [⟨[.flt ninfB, .flt infB], 26⟩] []) :=
  arI100 a b c d lo hi 0 a w0 [] [] (by
      repeat' (with_reducible apply and_t')
      all_goals first
        | rfl
        | exact pb_of rfl
        | assumption
        | (simp only [*]; rfl))

theorem arRound1 (a b c d lo hi : Nat) (w0 : World) (h : fne b b = false) : Goes CU1 w0 43 arBody (arS a b c d lo hi 1) .normal (arS a b c d (lesser b lo) (greater b hi) 2) := by
  unfold lesser greater
  cases h1 : flt b lo with
  | true =>
    cases h2 : fgt b hi with
    | true => exact arI011 a b c d lo hi 1 b w0 [] [] (by
      repeat' (with_reducible apply and_t')
      all_goals first
        | rfl
        | exact pb_of rfl
        | assumption
        | (simp only [*]; rfl))
    | false => exact arI010 a b c d lo hi 1 b w0 [] [] (by
      repeat' (with_reducible apply and_t')
      all_goals first
        | rfl
        | exact pb_of rfl
        | assumption
        | (simp only [*]; rfl))
  | false =>
    cases h2 : fgt b hi with
    | true => exact arI001 a b c d lo hi 1 b w0 [] [] (by
      repeat' (with_reducible apply and_t')
      all_goals first
        | rfl
        | exact pb_of rfl
        | assumption
        | (simp only [*]; rfl))
    | false => exact arI000 a b c d lo hi 1 b w0 [] [] (by
      repeat' (with_reducible apply and_t')
      all_goals first
        | rfl
        | exact pb_of rfl
        | assumption
        | (simp only [*]; rfl))
theorem arNan1 (a b c d lo hi : Nat) (w0 : World) (h : fne b b = true) : Goes CU1 w0 43 arBody (arS a b c d lo hi 1) .ret (mk [2] [.ptr 0 0] [⟨[.flt ninfB, .flt infB], 26⟩] []) :=
  arI100 a b c d lo hi 1 b w0 [] [] (by
      repeat' (with_reducible apply and_t')
      all_goals first
        | rfl
        | exact pb_of rfl
        | assumption
        | (simp only [*]; rfl))

theorem arRound2 (a b c d lo hi : Nat) (w0 : World) (h : fne c c = false) : Goes CU1 w0 43 arBody (arS a b c d lo hi 2) .normal (arS a b c d (lesser c lo) (greater c hi) 3) := by
  unfold lesser greater
  cases h1 : flt c lo with
  | true =>
    cases h2 : fgt c hi with
    | true => exact arI011 a b c d lo hi 2 c w0 [] [] (by
      repeat' (with_reducible apply and_t')
      all_goals first
        | rfl
        | exact pb_of rfl
        | assumption
        | (simp only [*]; rfl))
    | false => exact arI010 a b c d lo hi 2 c w0 [] [] (by
      repeat' (with_reducible apply and_t')
      all_goals first
        | rfl
        | exact pb_of rfl
        | assumption
        | (simp only [*]; rfl))
  | false =>
    cases h2 : fgt c hi with
    | true => exact arI001 a b c d lo hi 2 c w0 [] [] (by
      repeat' (with_reducible apply and_t')
      all_goals first
        | rfl
        | exact pb_of rfl
        | assumption
        | (simp only [*]; rfl))
    | false => exact arI000 a b c d lo hi 2 c w0 [] [] (by
      repeat' (with_reducible apply and_t')
      all_goals first
        | rfl
        | exact pb_of rfl
        | assumption
        | (simp only [*]; rfl))
theorem arNan2 (a b c d lo hi : Nat) (w0 : World) (h : fne c c = true) : Goes CU1 w0 43 arBody (arS a b c d lo hi 2) .ret (mk [2] [.ptr 0 0] [⟨[.flt ninfB, .flt infB], 26⟩] []) :=
  arI100 a b c d lo hi 2 c w0 [] [] (by
      repeat' (with_reducible apply and_t')
      all_goals first
        | rfl
        | exact pb_of rfl
        | assumption
        | (simp only [*]; rfl))

theorem arRound3 (a b c d lo hi : Nat) (w0 : World) (h : fne d d = false) : Goes CU1 w0 43 arBody (arS a b c d lo hi 3) .normal (arS a b c d (lesser d lo) (greater d hi) 4) := by
  unfold lesser greater
  cases h1 : flt d lo with
  | true =>
    cases h2 : fgt d hi with
    | true => exact arI011 a b c d lo hi 3 d w0 [] [] (by
      repeat' (with_reducible apply and_t')
      all_goals first
        | rfl
        | exact pb_of rfl
        | assumption
        | (simp only [*]; rfl))
    | false => exact arI010 a b c d lo hi 3 d w0 [] [] (by
      repeat' (with_reducible apply and_t')
      all_goals first
        | rfl
        | exact pb_of rfl
        | assumption
        | (simp only [*]; rfl))
  | false =>
    cases h2 : fgt d hi with
    | true => exact arI001 a b c d lo hi 3 d w0 [] [] (by
      repeat' (with_reducible apply and_t')
      all_goals first
        | rfl
        | exact pb_of rfl
        | assumption
        | (simp only [*]; rfl))
    | false => exact arI000 a b c d lo hi 3 d w0 [] [] (by
      repeat' (with_reducible apply and_t')
      all_goals first
        | rfl
        | exact pb_of rfl
        | assumption
        | (simp only [*]; rfl))
theorem arNan3 (a b c d lo hi : Nat) (w0 : World) (h : fne d d = true) : Goes CU1 w0 43 arBody (arS a b c d lo hi 3) .ret (mk [2] [.ptr 0 0] [⟨[.flt ninfB, .flt infB], 26⟩] []) :=
  arI100 a b c d lo hi 3 d w0 [] [] (by
      repeat' (with_reducible apply and_t')
      all_goals first
        | rfl
        | exact pb_of rfl
        | assumption
        | (simp only [*]; rfl))

def arSt (a b c d i : Nat) : St := arS a b c d (arLo a b c d i) (arHi a b c d i) i

theorem con_around (a b c d n : Nat) : Con prog 177 [.agg [.flt a, .flt b, .flt c, .flt d]] n (ivA (spanLo a b c d) (spanHi a b c d)) [] := by
  have pre : ∀ {w0 : World} {e : Ex} {s2 : St}, Goes CU1 w0 43 (cR (cR arC)) (mk [1,2,3,4] [.ptr 0 0, .ptr 1 0, .flt a, .flt a] [⟨[.flt a, .flt b, .flt c, .flt d], 100⟩, ⟨[.flt 0, .flt 0], 26⟩] []) e s2 → Goes CU1 w0 43 arC (St0 [.agg [.flt a, .flt b, .flt c, .flt d]] []) e s2 :=
    fun {w0 e s2} h => goes_seq (by kernel_rfl) (arA a b c d w0 []) (goes_seq (by kernel_rfl) (arB a b c d w0 [] []) h)
  have mid : ∀ {w0 : World} {e : Ex} {s2 : St}, Goes CU1 w0 43 (cR (cL (cR (cR arC)))) (arSt a b c d 0) e s2 → Goes CU1 w0 43 (cL (cR (cR arC))) (mk [1,2,3,4] [.ptr 0 0, .ptr 1 0, .flt a, .flt a] [⟨[.flt a, .flt b, .flt c, .flt d], 100⟩, ⟨[.flt 0, .flt 0], 26⟩] []) e s2 :=
    fun {w0 e s2} h => goes_seq (by kernel_rfl) (arD a b c d a a w0 [] []) h
  have r0 : ∀ w0, fne a a = false → Goes CU1 w0 43 arBody (arSt a b c d 0) .normal (arSt a b c d 1) := fun w0 h => by
    have := arRound0 a b c d a a w0 h; rw [lesser_self, greater_self] at this; exact this
  have r1 : ∀ w0, fne b b = false → Goes CU1 w0 43 arBody (arSt a b c d 1) .normal (arSt a b c d 2) := fun w0 h => arRound1 a b c d _ _ w0 h
  have r2 : ∀ w0, fne c c = false → Goes CU1 w0 43 arBody (arSt a b c d 2) .normal (arSt a b c d 3) := fun w0 h => arRound2 a b c d _ _ w0 h
  have r3 : ∀ w0, fne d d = false → Goes CU1 w0 43 arBody (arSt a b c d 3) .normal (arSt a b c d 4) := fun w0 h => arRound3 a b c d _ _ w0 h
  cases hn : spanNan a b c d with
  | false =>
    simp only [spanNan, Bool.or_eq_false_iff] at hn
    have hL : spanLo a b c d = outLo (spLo a b c d) (spHi a b c d) := by simp [spanLo, spanNan, hn]
    have hH : spanHi a b c d = outHi (spLo a b c d) (spHi a b c d) := by simp [spanHi, spanNan, hn]
    rw [hL, hH]
    refine @con_goesC prog esU1 8 177 43 _ (by kernel_rfl) [] .ret (mk [2] [.ptr 0 0] [⟨[.flt (outLo (spLo a b c d) (spHi a b c d)), .flt (outHi (spLo a b c d) (spHi a b c d))], 26⟩] []) n ⟨ivA (outLo (spLo a b c d) (spHi a b c d)) (outHi (spLo a b c d) (spHi a b c d)), [], true⟩ (by kernel_rfl) rfl (.inl rfl) fun w0 => ?_
    refine pre (goes_seq (by kernel_rfl) (mid (goes_block (id := 0) (by kernel_rfl) (goes_loop (by kernel_rfl) (fun h => by cases h) 4 (arSt a b c d) (s2 := mk [2,3,4] [.ptr 0 0, .flt (spLo a b c d), .flt (spHi a b c d)] [⟨[.flt 0, .flt 0], 26⟩] []) ?_ ?_))) (arE _ _ w0 [] []))
    · intro i hi
      match i, hi with
      | 0, _ => exact r0 w0 hn.1
      | 1, _ => exact r1 w0 hn.2.1
      | 2, _ => exact r2 w0 hn.2.2.1
      | 3, _ => exact r3 w0 hn.2.2.2
      | k + 4, h => omega
    · exact arX a b c d _ _ 4 w0 [] [] rfl
  | true =>
    have hL : spanLo a b c d = ninfB := by simp [spanLo, hn]
    have hH : spanHi a b c d = infB := by simp [spanHi, hn]
    rw [hL, hH]
    refine @con_goesC prog esU1 8 177 43 _ (by kernel_rfl) [] .ret (mk [2] [.ptr 0 0] [⟨[.flt ninfB, .flt infB], 26⟩] []) n ⟨ivA ninfB infB, [], true⟩ (by kernel_rfl) rfl (.inl rfl) fun w0 => ?_
    refine pre (goes_seq_out (by kernel_rfl) (fun h => by cases h) (mid (goes_block_ret (id := 0) (by kernel_rfl) ?_)))
    cases h1 : fne a a with
    | true => exact goes_loop (by kernel_rfl) (fun h => by cases h) 0 (arSt a b c d) (fun i hi => by omega) (arNan0 a b c d _ _ w0 h1)
    | false =>
      cases h2 : fne b b with
      | true => exact goes_loop (by kernel_rfl) (fun h => by cases h) 1 (arSt a b c d) (fun i hi => by
          match i, hi with
          | 0, _ => exact r0 w0 h1
          | k + 1, h => omega) (arNan1 a b c d _ _ w0 h2)
      | false =>
        cases h3 : fne c c with
        | true => exact goes_loop (by kernel_rfl) (fun h => by cases h) 2 (arSt a b c d) (fun i hi => by
            match i, hi with
            | 0, _ => exact r0 w0 h1
            | 1, _ => exact r1 w0 h2
            | k + 2, h => omega) (arNan2 a b c d _ _ w0 h3)
        | false =>
          have h4 : fne d d = true := by simpa [spanNan, h1, h2, h3] using hn
          exact goes_loop (by kernel_rfl) (fun h => by cases h) 3 (arSt a b c d) (fun i hi => by
            match i, hi with
            | 0, _ => exact r0 w0 h1
            | 1, _ => exact r1 w0 h2
            | 2, _ => exact r2 w0 h3
            | k + 3, h => omega) (arNan3 a b c d _ _ w0 h4)

def erAround : Entry := ⟨177, fun xs _ => match xs with
  | [.agg [.flt a, .flt b, .flt c, .flt d]] => some ⟨ivA (spanLo a b c d) (spanHi a b c d), [], true⟩
  | _ => none⟩
theorem erAround_ok : EntryOK prog erAround := by
  intro xs n r h hok
  simp only [erAround] at h
  split at h
  · cases h; exact con_around _ _ _ _ n
  · cases h
theorem con_rHolds (a b n : Nat) : Con prog 178 [ivA a b] n (.bool (fle a 0 && fle 0 b)) [] := by
  cases h : fle a 0 with
  | true => exact rHol1 a b n (by rw [h]; rfl)
  | false => exact rHol0 a b n (by rw [h]; rfl)
def erHolds : Entry := ⟨178, fun xs _ => match xs with
  | [.agg [.flt a, .flt b]] => some ⟨.bool (fle a 0 && fle 0 b), [], true⟩
  | _ => none⟩
theorem erHolds_ok : EntryOK prog erHolds := by
  intro xs n r h hok
  simp only [erHolds] at h
  split at h
  · cases h; exact con_rHolds _ _ n
  · cases h
def esU2 : List Entry := erHolds :: erAround :: esU1
theorem esU2_ok : ∀ e ∈ esU2, EntryOK prog e := by
  intro e he
  rcases List.mem_cons.1 he with rfl | he
  · exact erHolds_ok
  rcases List.mem_cons.1 he with rfl | he
  · exact erAround_ok
  · exact esU1_ok e he
noncomputable abbrev CU2 : Ctx := ctx prog esU2 8
theorem OU2 : OrcOK CU2.P CU2.orc := ctx_ok mixed esU2_ok 8

theorem con_rAdd (a b c d n : Nat) : Con prog 131 [ivA a b, ivA c d] n (ivA (outLo (fadd a c) (fadd b d)) (outHi (fadd a c) (fadd b d))) [] :=
  con_evF OU2 mixed (qs := []) (dec := []) (r := ⟨ivA (outLo (fadd a c) (fadd b d)) (outHi (fadd a c) (fadd b d)), [], true⟩) (by kernel_rfl) rfl

theorem con_rSub (a b c d n : Nat) : Con prog 132 [ivA a b, ivA c d] n (ivA (outLo (fsub a d) (fsub b c)) (outHi (fsub a d) (fsub b c))) [] :=
  con_evF OU2 mixed (qs := []) (dec := []) (r := ⟨ivA (outLo (fsub a d) (fsub b c)) (outHi (fsub a d) (fsub b c)), [], true⟩) (by kernel_rfl) rfl

theorem con_rMul (a b c d n : Nat) : Con prog 133 [ivA a b, ivA c d] n (ivA (mulLo a b c d) (mulHi a b c d)) [] :=
  con_evF OU2 mixed (qs := []) (dec := []) (r := ⟨ivA (mulLo a b c d) (mulHi a b c d), [], true⟩) (by kernel_rfl) rfl

theorem con_rDiv (a b c d n : Nat) : Con prog 134 [ivA a b, ivA c d] n (ivA (divLo a b c d) (divHi a b c d)) [] := by
  unfold divLo divHi
  cases h : fle c 0 && fle 0 d with
  | true => exact con_evF OU2 mixed (qs := [6]) (dec := [true]) (r := ⟨ivA ninfB infB, [], (fle c 0 && fle 0 d) && true⟩) (by kernel_rfl) (by rw [h]; rfl)
  | false => exact con_evF OU2 mixed (qs := [6]) (dec := [false]) (r := ⟨ivA (spanLo (fdiv a c) (fdiv a d) (fdiv b c) (fdiv b d)) (spanHi (fdiv a c) (fdiv a d) (fdiv b c) (fdiv b d)), [], !(fle c 0 && fle 0 d) && true⟩) (by kernel_rfl) (by rw [h]; rfl)
theorem con_div (a b c d n : Nat) : Con prog 138 [ivA a b, ivA c d] n (ivA (divLo a b c d) (divHi a b c d)) [] := by
  unfold divLo divHi
  cases h : fle c 0 && fle 0 d with
  | true => exact iDiv1 a b c d n (by rw [h]; rfl)
  | false => exact iDiv0 a b c d n (by rw [h]; rfl)

def erAdd : Entry := ⟨131, fun xs _ => match xs with
  | [.agg [.flt a, .flt b], .agg [.flt c, .flt d]] => some ⟨ivV (kI.add (a, b) (c, d)), [], true⟩
  | _ => none⟩
theorem erAdd_ok : EntryOK prog erAdd := by
  intro xs n r h hok
  simp only [erAdd] at h
  split at h
  · cases h; exact con_rAdd _ _ _ _ n
  · cases h

def erSub : Entry := ⟨132, fun xs _ => match xs with
  | [.agg [.flt a, .flt b], .agg [.flt c, .flt d]] => some ⟨ivV (kI.sub (a, b) (c, d)), [], true⟩
  | _ => none⟩
theorem erSub_ok : EntryOK prog erSub := by
  intro xs n r h hok
  simp only [erSub] at h
  split at h
  · cases h; exact con_rSub _ _ _ _ n
  · cases h

def erMul : Entry := ⟨133, fun xs _ => match xs with
  | [.agg [.flt a, .flt b], .agg [.flt c, .flt d]] => some ⟨ivV (kI.mul (a, b) (c, d)), [], true⟩
  | _ => none⟩
theorem erMul_ok : EntryOK prog erMul := by
  intro xs n r h hok
  simp only [erMul] at h
  split at h
  · cases h; exact con_rMul _ _ _ _ n
  · cases h

def erDiv : Entry := ⟨134, fun xs _ => match xs with
  | [.agg [.flt a, .flt b], .agg [.flt c, .flt d]] => some ⟨ivV (kI.div (a, b) (c, d)), [], true⟩
  | _ => none⟩
theorem erDiv_ok : EntryOK prog erDiv := by
  intro xs n r h hok
  simp only [erDiv] at h
  split at h
  · cases h; exact con_rDiv _ _ _ _ n
  · cases h

def eDiv : Entry := ⟨138, fun xs _ => match xs with
  | [.agg [.flt a, .flt b], .agg [.flt c, .flt d]] => some ⟨ivV (kI.div (a, b) (c, d)), [], true⟩
  | _ => none⟩
theorem eDiv_ok : EntryOK prog eDiv := by
  intro xs n r h hok
  simp only [eDiv] at h
  split at h
  · cases h; exact con_div _ _ _ _ n
  · cases h

def eAddK : Entry := ⟨20, fun xs _ => match xs with
  | [.agg [.flt a, .flt b], .agg [.flt c, .flt d]] => some ⟨ivV (kI.add (a, b) (c, d)), [], true⟩
  | _ => none⟩
theorem eAddK_ok : EntryOK prog eAddK := by
  intro xs n r h hok
  simp only [eAddK] at h
  split at h
  · cases h; exact con_add _ _ _ _ n
  · cases h

def eSubK : Entry := ⟨21, fun xs _ => match xs with
  | [.agg [.flt a, .flt b], .agg [.flt c, .flt d]] => some ⟨ivV (kI.sub (a, b) (c, d)), [], true⟩
  | _ => none⟩
theorem eSubK_ok : EntryOK prog eSubK := by
  intro xs n r h hok
  simp only [eSubK] at h
  split at h
  · cases h; exact con_sub _ _ _ _ n
  · cases h

def eMulK : Entry := ⟨22, fun xs _ => match xs with
  | [.agg [.flt a, .flt b], .agg [.flt c, .flt d]] => some ⟨ivV (kI.mul (a, b) (c, d)), [], true⟩
  | _ => none⟩
theorem eMulK_ok : EntryOK prog eMulK := by
  intro xs n r h hok
  simp only [eMulK] at h
  split at h
  · cases h; exact con_mul _ _ _ _ n
  · cases h

/-- Both kinds of from-tos, reckoned alike. -/
def esU : List Entry := [eAddK, eSubK, eMulK, eDiv, erAdd, erSub, erMul, erDiv] ++ esU2
theorem esU_ok : ∀ e ∈ esU, EntryOK prog e := by
  intro e he
  simp only [esU, List.cons_append, List.nil_append, List.mem_cons] at he
  rcases he with rfl | rfl | rfl | rfl | rfl | rfl | rfl | rfl | he
  · exact eAddK_ok
  · exact eSubK_ok
  · exact eMulK_ok
  · exact eDiv_ok
  · exact erAdd_ok
  · exact erSub_ok
  · exact erMul_ok
  · exact erDiv_ok
  · exact esU2_ok e he
end Try
end Go.Eng
/- Fields, part 1: how a field of floats changes: one value, one slope (jac.kind.value, jac.kind.slope), by kinds. Condition: as each piece says. Written by wip/tools/kg.py. -/
namespace Go.Eng.Try
open Go Go.Eng Go.RowKit Go.Proofs.Try
noncomputable abbrev CM0 : Ctx := ctx prog es4 8
def jKinds : AV := .agg [.fn 149 [] [], .fn 150 [] [], .fn 151 [] [], .fn 152 [] [], .fn 153 [] []]

theorem OM0 : OrcOK CM0.P CM0.orc := ctx_ok mixed es4_ok 8

theorem jVal0 (xs : List Nat) (lx : Nat) (cells : List AV) (l : Nat) (a b : Int) (c : Nat) (nb : Nat) : Con prog 154 [jKinds, .agg [.int .i64 0, .int .i64 a, .int .i64 b, .flt c], .snap (fltL xs) lx, .snap cells l] nb (AV.flt c) [] :=
  con_evF OM0 mixed (qs := []) (dec := []) (r := ⟨(AV.flt c), [], true⟩) (by kernel_rfl) rfl
theorem jVal1 (xs : List Nat) (lx : Nat) (cells : List AV) (l : Nat) (a b : Int) (c : Nat) (nb : Nat) (hok : ((Nat.blt (Int.toNat a * 1) (List.length (fltL xs)) && AV.isFlt (List.getD (fltL xs) (Int.toNat a * 1) .undef) && (decide ((0 : Int) ≤ a ∧ a < (↑lx : Int)) && true))) = true) : Con prog 154 [jKinds, .agg [.int .i64 1, .int .i64 a, .int .i64 b, .flt c], .snap (fltL xs) lx, .snap cells l] nb (AV.flt (AV.toFlt (List.getD (fltL xs) (Int.toNat a * 1) .undef))) [] :=
  con_evF OM0 mixed (qs := []) (dec := []) (r := ⟨(AV.flt (AV.toFlt (List.getD (fltL xs) (Int.toNat a * 1) .undef))), [], (Nat.blt (Int.toNat a * 1) (List.length (fltL xs)) && AV.isFlt (List.getD (fltL xs) (Int.toNat a * 1) .undef) && (decide ((0 : Int) ≤ a ∧ a < (↑lx : Int)) && true))⟩) (by kernel_rfl) hok
theorem jVal2 (xs : List Nat) (lx : Nat) (cells : List AV) (l : Nat) (a b : Int) (c : Nat) (nb : Nat) (hok : ((Nat.blt (Int.toNat b * 2 + 0) (List.length cells) && AV.isFlt (List.getD cells (Int.toNat b * 2 + 0) .undef) && (decide ((0 : Int) ≤ b ∧ b < (↑l : Int)) && (Nat.blt (Int.toNat a * 2 + 0) (List.length cells) && AV.isFlt (List.getD cells (Int.toNat a * 2 + 0) .undef) && (decide ((0 : Int) ≤ a ∧ a < (↑l : Int)) && true))))) = true) : Con prog 154 [jKinds, .agg [.int .i64 2, .int .i64 a, .int .i64 b, .flt c], .snap (fltL xs) lx, .snap cells l] nb (AV.flt (fadd (AV.toFlt (List.getD cells (Int.toNat a * 2 + 0) .undef)) (AV.toFlt (List.getD cells (Int.toNat b * 2 + 0) .undef)))) [] :=
  con_evF OM0 mixed (qs := []) (dec := []) (r := ⟨(AV.flt (fadd (AV.toFlt (List.getD cells (Int.toNat a * 2 + 0) .undef)) (AV.toFlt (List.getD cells (Int.toNat b * 2 + 0) .undef)))), [], (Nat.blt (Int.toNat b * 2 + 0) (List.length cells) && AV.isFlt (List.getD cells (Int.toNat b * 2 + 0) .undef) && (decide ((0 : Int) ≤ b ∧ b < (↑l : Int)) && (Nat.blt (Int.toNat a * 2 + 0) (List.length cells) && AV.isFlt (List.getD cells (Int.toNat a * 2 + 0) .undef) && (decide ((0 : Int) ≤ a ∧ a < (↑l : Int)) && true))))⟩) (by kernel_rfl) hok
theorem jVal3 (xs : List Nat) (lx : Nat) (cells : List AV) (l : Nat) (a b : Int) (c : Nat) (nb : Nat) (hok : ((Nat.blt (Int.toNat b * 2 + 0) (List.length cells) && AV.isFlt (List.getD cells (Int.toNat b * 2 + 0) .undef) && (decide ((0 : Int) ≤ b ∧ b < (↑l : Int)) && (Nat.blt (Int.toNat a * 2 + 0) (List.length cells) && AV.isFlt (List.getD cells (Int.toNat a * 2 + 0) .undef) && (decide ((0 : Int) ≤ a ∧ a < (↑l : Int)) && true))))) = true) : Con prog 154 [jKinds, .agg [.int .i64 3, .int .i64 a, .int .i64 b, .flt c], .snap (fltL xs) lx, .snap cells l] nb (AV.flt (fsub (AV.toFlt (List.getD cells (Int.toNat a * 2 + 0) .undef)) (AV.toFlt (List.getD cells (Int.toNat b * 2 + 0) .undef)))) [] :=
  con_evF OM0 mixed (qs := []) (dec := []) (r := ⟨(AV.flt (fsub (AV.toFlt (List.getD cells (Int.toNat a * 2 + 0) .undef)) (AV.toFlt (List.getD cells (Int.toNat b * 2 + 0) .undef)))), [], (Nat.blt (Int.toNat b * 2 + 0) (List.length cells) && AV.isFlt (List.getD cells (Int.toNat b * 2 + 0) .undef) && (decide ((0 : Int) ≤ b ∧ b < (↑l : Int)) && (Nat.blt (Int.toNat a * 2 + 0) (List.length cells) && AV.isFlt (List.getD cells (Int.toNat a * 2 + 0) .undef) && (decide ((0 : Int) ≤ a ∧ a < (↑l : Int)) && true))))⟩) (by kernel_rfl) hok
theorem jVal4 (xs : List Nat) (lx : Nat) (cells : List AV) (l : Nat) (a b : Int) (c : Nat) (nb : Nat) (hok : ((Nat.blt (Int.toNat b * 2 + 0) (List.length cells) && AV.isFlt (List.getD cells (Int.toNat b * 2 + 0) .undef) && (decide ((0 : Int) ≤ b ∧ b < (↑l : Int)) && (Nat.blt (Int.toNat a * 2 + 0) (List.length cells) && AV.isFlt (List.getD cells (Int.toNat a * 2 + 0) .undef) && (decide ((0 : Int) ≤ a ∧ a < (↑l : Int)) && true))))) = true) : Con prog 154 [jKinds, .agg [.int .i64 4, .int .i64 a, .int .i64 b, .flt c], .snap (fltL xs) lx, .snap cells l] nb (AV.flt (fmul (AV.toFlt (List.getD cells (Int.toNat a * 2 + 0) .undef)) (AV.toFlt (List.getD cells (Int.toNat b * 2 + 0) .undef)))) [] :=
  con_evF OM0 mixed (qs := []) (dec := []) (r := ⟨(AV.flt (fmul (AV.toFlt (List.getD cells (Int.toNat a * 2 + 0) .undef)) (AV.toFlt (List.getD cells (Int.toNat b * 2 + 0) .undef)))), [], (Nat.blt (Int.toNat b * 2 + 0) (List.length cells) && AV.isFlt (List.getD cells (Int.toNat b * 2 + 0) .undef) && (decide ((0 : Int) ≤ b ∧ b < (↑l : Int)) && (Nat.blt (Int.toNat a * 2 + 0) (List.length cells) && AV.isFlt (List.getD cells (Int.toNat a * 2 + 0) .undef) && (decide ((0 : Int) ≤ a ∧ a < (↑l : Int)) && true))))⟩) (by kernel_rfl) hok
theorem jVal5 (xs : List Nat) (lx : Nat) (cells : List AV) (l : Nat) (a b : Int) (c : Nat) (nb : Nat) (hok : ((Nat.blt (Int.toNat b * 2 + 0) (List.length cells) && AV.isFlt (List.getD cells (Int.toNat b * 2 + 0) .undef) && (decide ((0 : Int) ≤ b ∧ b < (↑l : Int)) && (Nat.blt (Int.toNat a * 2 + 0) (List.length cells) && AV.isFlt (List.getD cells (Int.toNat a * 2 + 0) .undef) && (decide ((0 : Int) ≤ a ∧ a < (↑l : Int)) && true))))) = true) : Con prog 154 [jKinds, .agg [.int .i64 5, .int .i64 a, .int .i64 b, .flt c], .snap (fltL xs) lx, .snap cells l] nb (AV.flt (fdiv (AV.toFlt (List.getD cells (Int.toNat a * 2 + 0) .undef)) (AV.toFlt (List.getD cells (Int.toNat b * 2 + 0) .undef)))) [] :=
  con_evF OM0 mixed (qs := []) (dec := []) (r := ⟨(AV.flt (fdiv (AV.toFlt (List.getD cells (Int.toNat a * 2 + 0) .undef)) (AV.toFlt (List.getD cells (Int.toNat b * 2 + 0) .undef)))), [], (Nat.blt (Int.toNat b * 2 + 0) (List.length cells) && AV.isFlt (List.getD cells (Int.toNat b * 2 + 0) .undef) && (decide ((0 : Int) ≤ b ∧ b < (↑l : Int)) && (Nat.blt (Int.toNat a * 2 + 0) (List.length cells) && AV.isFlt (List.getD cells (Int.toNat a * 2 + 0) .undef) && (decide ((0 : Int) ≤ a ∧ a < (↑l : Int)) && true))))⟩) (by kernel_rfl) hok
theorem jSlo0 (cells : List AV) (l : Nat) (a b : Int) (c : Nat) (i : Nat) (q : Nat) (nb : Nat) : Con prog 155 [jKinds, .agg [.int .i64 0, .int .i64 a, .int .i64 b, .flt c], .int .i64 (i : Int), .flt q, .snap cells l] nb (AV.flt 0) [] :=
  con_evF OM0 mixed (qs := []) (dec := []) (r := ⟨(AV.flt 0), [], true⟩) (by kernel_rfl) rfl
theorem jSlo1t (cells : List AV) (l : Nat) (a b : Int) (c : Nat) (i : Nat) (q : Nat) (nb : Nat) (hok : ((a == (↑i : Int) && true)) = true) : Con prog 155 [jKinds, .agg [.int .i64 1, .int .i64 a, .int .i64 b, .flt c], .int .i64 (i : Int), .flt q, .snap cells l] nb (AV.flt 4607182418800017408) [] :=
  con_evF OM0 mixed (qs := [13]) (dec := [true]) (r := ⟨(AV.flt 4607182418800017408), [], (a == (↑i : Int) && true)⟩) (by kernel_rfl) hok
theorem jSlo1f (cells : List AV) (l : Nat) (a b : Int) (c : Nat) (i : Nat) (q : Nat) (nb : Nat) (hok : ((!a == (↑i : Int) && true)) = true) : Con prog 155 [jKinds, .agg [.int .i64 1, .int .i64 a, .int .i64 b, .flt c], .int .i64 (i : Int), .flt q, .snap cells l] nb (AV.flt 0) [] :=
  con_evF OM0 mixed (qs := [13]) (dec := [false]) (r := ⟨(AV.flt 0), [], (!a == (↑i : Int) && true)⟩) (by kernel_rfl) hok
theorem jSlo2 (cells : List AV) (l : Nat) (a b : Int) (c : Nat) (i : Nat) (q : Nat) (nb : Nat) (hok : ((Nat.blt (Int.toNat ↑i * 1) (List.length (AV.sCells (List.getD cells (Int.toNat b * 2 + 1) .undef))) && AV.isFlt (List.getD (AV.sCells (List.getD cells (Int.toNat b * 2 + 1) .undef)) (Int.toNat ↑i * 1) .undef) && (decide ((0 : Int) ≤ (↑i : Int) ∧ (↑i : Int) < (↑(AV.sLen (List.getD cells (Int.toNat b * 2 + 1) .undef)) : Int)) && (Nat.blt (Int.toNat ↑i * 1) (List.length (AV.sCells (List.getD cells (Int.toNat a * 2 + 1) .undef))) && AV.isFlt (List.getD (AV.sCells (List.getD cells (Int.toNat a * 2 + 1) .undef)) (Int.toNat ↑i * 1) .undef) && (decide ((0 : Int) ≤ (↑i : Int) ∧ (↑i : Int) < (↑(AV.sLen (List.getD cells (Int.toNat a * 2 + 1) .undef)) : Int)) && (Nat.ble (Int.toNat b * 2 + 2) (List.length cells) && etasOk [Leaf.f, Leaf.sl] cells (Int.toNat b * 2) && (decide ((0 : Int) ≤ b ∧ b < (↑l : Int)) && (Nat.ble (Int.toNat a * 2 + 2) (List.length cells) && etasOk [Leaf.f, Leaf.sl] cells (Int.toNat a * 2) && (decide ((0 : Int) ≤ a ∧ a < (↑l : Int)) && true))))))))) = true) : Con prog 155 [jKinds, .agg [.int .i64 2, .int .i64 a, .int .i64 b, .flt c], .int .i64 (i : Int), .flt q, .snap cells l] nb (AV.flt (fadd (AV.toFlt (List.getD (AV.sCells (List.getD cells (Int.toNat a * 2 + 1) .undef)) (Int.toNat ↑i * 1) .undef)) (AV.toFlt (List.getD (AV.sCells (List.getD cells (Int.toNat b * 2 + 1) .undef)) (Int.toNat ↑i * 1) .undef)))) [] :=
  con_evF OM0 mixed (qs := []) (dec := []) (r := ⟨(AV.flt (fadd (AV.toFlt (List.getD (AV.sCells (List.getD cells (Int.toNat a * 2 + 1) .undef)) (Int.toNat ↑i * 1) .undef)) (AV.toFlt (List.getD (AV.sCells (List.getD cells (Int.toNat b * 2 + 1) .undef)) (Int.toNat ↑i * 1) .undef)))), [], (Nat.blt (Int.toNat ↑i * 1) (List.length (AV.sCells (List.getD cells (Int.toNat b * 2 + 1) .undef))) && AV.isFlt (List.getD (AV.sCells (List.getD cells (Int.toNat b * 2 + 1) .undef)) (Int.toNat ↑i * 1) .undef) && (decide ((0 : Int) ≤ (↑i : Int) ∧ (↑i : Int) < (↑(AV.sLen (List.getD cells (Int.toNat b * 2 + 1) .undef)) : Int)) && (Nat.blt (Int.toNat ↑i * 1) (List.length (AV.sCells (List.getD cells (Int.toNat a * 2 + 1) .undef))) && AV.isFlt (List.getD (AV.sCells (List.getD cells (Int.toNat a * 2 + 1) .undef)) (Int.toNat ↑i * 1) .undef) && (decide ((0 : Int) ≤ (↑i : Int) ∧ (↑i : Int) < (↑(AV.sLen (List.getD cells (Int.toNat a * 2 + 1) .undef)) : Int)) && (Nat.ble (Int.toNat b * 2 + 2) (List.length cells) && etasOk [Leaf.f, Leaf.sl] cells (Int.toNat b * 2) && (decide ((0 : Int) ≤ b ∧ b < (↑l : Int)) && (Nat.ble (Int.toNat a * 2 + 2) (List.length cells) && etasOk [Leaf.f, Leaf.sl] cells (Int.toNat a * 2) && (decide ((0 : Int) ≤ a ∧ a < (↑l : Int)) && true))))))))⟩) (by kernel_rfl) hok
theorem jSlo3 (cells : List AV) (l : Nat) (a b : Int) (c : Nat) (i : Nat) (q : Nat) (nb : Nat) (hok : ((Nat.blt (Int.toNat ↑i * 1) (List.length (AV.sCells (List.getD cells (Int.toNat b * 2 + 1) .undef))) && AV.isFlt (List.getD (AV.sCells (List.getD cells (Int.toNat b * 2 + 1) .undef)) (Int.toNat ↑i * 1) .undef) && (decide ((0 : Int) ≤ (↑i : Int) ∧ (↑i : Int) < (↑(AV.sLen (List.getD cells (Int.toNat b * 2 + 1) .undef)) : Int)) && (Nat.blt (Int.toNat ↑i * 1) (List.length (AV.sCells (List.getD cells (Int.toNat a * 2 + 1) .undef))) && AV.isFlt (List.getD (AV.sCells (List.getD cells (Int.toNat a * 2 + 1) .undef)) (Int.toNat ↑i * 1) .undef) && (decide ((0 : Int) ≤ (↑i : Int) ∧ (↑i : Int) < (↑(AV.sLen (List.getD cells (Int.toNat a * 2 + 1) .undef)) : Int)) && (Nat.ble (Int.toNat b * 2 + 2) (List.length cells) && etasOk [Leaf.f, Leaf.sl] cells (Int.toNat b * 2) && (decide ((0 : Int) ≤ b ∧ b < (↑l : Int)) && (Nat.ble (Int.toNat a * 2 + 2) (List.length cells) && etasOk [Leaf.f, Leaf.sl] cells (Int.toNat a * 2) && (decide ((0 : Int) ≤ a ∧ a < (↑l : Int)) && true))))))))) = true) : Con prog 155 [jKinds, .agg [.int .i64 3, .int .i64 a, .int .i64 b, .flt c], .int .i64 (i : Int), .flt q, .snap cells l] nb (AV.flt (fsub (AV.toFlt (List.getD (AV.sCells (List.getD cells (Int.toNat a * 2 + 1) .undef)) (Int.toNat ↑i * 1) .undef)) (AV.toFlt (List.getD (AV.sCells (List.getD cells (Int.toNat b * 2 + 1) .undef)) (Int.toNat ↑i * 1) .undef)))) [] :=
  con_evF OM0 mixed (qs := []) (dec := []) (r := ⟨(AV.flt (fsub (AV.toFlt (List.getD (AV.sCells (List.getD cells (Int.toNat a * 2 + 1) .undef)) (Int.toNat ↑i * 1) .undef)) (AV.toFlt (List.getD (AV.sCells (List.getD cells (Int.toNat b * 2 + 1) .undef)) (Int.toNat ↑i * 1) .undef)))), [], (Nat.blt (Int.toNat ↑i * 1) (List.length (AV.sCells (List.getD cells (Int.toNat b * 2 + 1) .undef))) && AV.isFlt (List.getD (AV.sCells (List.getD cells (Int.toNat b * 2 + 1) .undef)) (Int.toNat ↑i * 1) .undef) && (decide ((0 : Int) ≤ (↑i : Int) ∧ (↑i : Int) < (↑(AV.sLen (List.getD cells (Int.toNat b * 2 + 1) .undef)) : Int)) && (Nat.blt (Int.toNat ↑i * 1) (List.length (AV.sCells (List.getD cells (Int.toNat a * 2 + 1) .undef))) && AV.isFlt (List.getD (AV.sCells (List.getD cells (Int.toNat a * 2 + 1) .undef)) (Int.toNat ↑i * 1) .undef) && (decide ((0 : Int) ≤ (↑i : Int) ∧ (↑i : Int) < (↑(AV.sLen (List.getD cells (Int.toNat a * 2 + 1) .undef)) : Int)) && (Nat.ble (Int.toNat b * 2 + 2) (List.length cells) && etasOk [Leaf.f, Leaf.sl] cells (Int.toNat b * 2) && (decide ((0 : Int) ≤ b ∧ b < (↑l : Int)) && (Nat.ble (Int.toNat a * 2 + 2) (List.length cells) && etasOk [Leaf.f, Leaf.sl] cells (Int.toNat a * 2) && (decide ((0 : Int) ≤ a ∧ a < (↑l : Int)) && true))))))))⟩) (by kernel_rfl) hok
theorem jSlo4 (cells : List AV) (l : Nat) (a b : Int) (c : Nat) (i : Nat) (q : Nat) (nb : Nat) (hok : ((Nat.blt (Int.toNat ↑i * 1) (List.length (AV.sCells (List.getD cells (Int.toNat b * 2 + 1) .undef))) && AV.isFlt (List.getD (AV.sCells (List.getD cells (Int.toNat b * 2 + 1) .undef)) (Int.toNat ↑i * 1) .undef) && (decide ((0 : Int) ≤ (↑i : Int) ∧ (↑i : Int) < (↑(AV.sLen (List.getD cells (Int.toNat b * 2 + 1) .undef)) : Int)) && (Nat.blt (Int.toNat ↑i * 1) (List.length (AV.sCells (List.getD cells (Int.toNat a * 2 + 1) .undef))) && AV.isFlt (List.getD (AV.sCells (List.getD cells (Int.toNat a * 2 + 1) .undef)) (Int.toNat ↑i * 1) .undef) && (decide ((0 : Int) ≤ (↑i : Int) ∧ (↑i : Int) < (↑(AV.sLen (List.getD cells (Int.toNat a * 2 + 1) .undef)) : Int)) && (Nat.ble (Int.toNat b * 2 + 2) (List.length cells) && etasOk [Leaf.f, Leaf.sl] cells (Int.toNat b * 2) && (decide ((0 : Int) ≤ b ∧ b < (↑l : Int)) && (Nat.ble (Int.toNat a * 2 + 2) (List.length cells) && etasOk [Leaf.f, Leaf.sl] cells (Int.toNat a * 2) && (decide ((0 : Int) ≤ a ∧ a < (↑l : Int)) && true))))))))) = true) : Con prog 155 [jKinds, .agg [.int .i64 4, .int .i64 a, .int .i64 b, .flt c], .int .i64 (i : Int), .flt q, .snap cells l] nb (AV.flt (fadd (fmul (AV.toFlt (List.getD (AV.sCells (List.getD cells (Int.toNat a * 2 + 1) .undef)) (Int.toNat ↑i * 1) .undef)) (AV.toFlt (List.getD cells (Int.toNat b * 2) .undef))) (fmul (AV.toFlt (List.getD cells (Int.toNat a * 2) .undef)) (AV.toFlt (List.getD (AV.sCells (List.getD cells (Int.toNat b * 2 + 1) .undef)) (Int.toNat ↑i * 1) .undef))))) [] :=
  con_evF OM0 mixed (qs := []) (dec := []) (r := ⟨(AV.flt (fadd (fmul (AV.toFlt (List.getD (AV.sCells (List.getD cells (Int.toNat a * 2 + 1) .undef)) (Int.toNat ↑i * 1) .undef)) (AV.toFlt (List.getD cells (Int.toNat b * 2) .undef))) (fmul (AV.toFlt (List.getD cells (Int.toNat a * 2) .undef)) (AV.toFlt (List.getD (AV.sCells (List.getD cells (Int.toNat b * 2 + 1) .undef)) (Int.toNat ↑i * 1) .undef))))), [], (Nat.blt (Int.toNat ↑i * 1) (List.length (AV.sCells (List.getD cells (Int.toNat b * 2 + 1) .undef))) && AV.isFlt (List.getD (AV.sCells (List.getD cells (Int.toNat b * 2 + 1) .undef)) (Int.toNat ↑i * 1) .undef) && (decide ((0 : Int) ≤ (↑i : Int) ∧ (↑i : Int) < (↑(AV.sLen (List.getD cells (Int.toNat b * 2 + 1) .undef)) : Int)) && (Nat.blt (Int.toNat ↑i * 1) (List.length (AV.sCells (List.getD cells (Int.toNat a * 2 + 1) .undef))) && AV.isFlt (List.getD (AV.sCells (List.getD cells (Int.toNat a * 2 + 1) .undef)) (Int.toNat ↑i * 1) .undef) && (decide ((0 : Int) ≤ (↑i : Int) ∧ (↑i : Int) < (↑(AV.sLen (List.getD cells (Int.toNat a * 2 + 1) .undef)) : Int)) && (Nat.ble (Int.toNat b * 2 + 2) (List.length cells) && etasOk [Leaf.f, Leaf.sl] cells (Int.toNat b * 2) && (decide ((0 : Int) ≤ b ∧ b < (↑l : Int)) && (Nat.ble (Int.toNat a * 2 + 2) (List.length cells) && etasOk [Leaf.f, Leaf.sl] cells (Int.toNat a * 2) && (decide ((0 : Int) ≤ a ∧ a < (↑l : Int)) && true))))))))⟩) (by kernel_rfl) hok
theorem jSlo5 (cells : List AV) (l : Nat) (a b : Int) (c : Nat) (i : Nat) (q : Nat) (nb : Nat) (hok : ((Nat.blt (Int.toNat ↑i * 1) (List.length (AV.sCells (List.getD cells (Int.toNat b * 2 + 1) .undef))) && AV.isFlt (List.getD (AV.sCells (List.getD cells (Int.toNat b * 2 + 1) .undef)) (Int.toNat ↑i * 1) .undef) && (decide ((0 : Int) ≤ (↑i : Int) ∧ (↑i : Int) < (↑(AV.sLen (List.getD cells (Int.toNat b * 2 + 1) .undef)) : Int)) && (Nat.blt (Int.toNat ↑i * 1) (List.length (AV.sCells (List.getD cells (Int.toNat a * 2 + 1) .undef))) && AV.isFlt (List.getD (AV.sCells (List.getD cells (Int.toNat a * 2 + 1) .undef)) (Int.toNat ↑i * 1) .undef) && (decide ((0 : Int) ≤ (↑i : Int) ∧ (↑i : Int) < (↑(AV.sLen (List.getD cells (Int.toNat a * 2 + 1) .undef)) : Int)) && (Nat.ble (Int.toNat b * 2 + 2) (List.length cells) && etasOk [Leaf.f, Leaf.sl] cells (Int.toNat b * 2) && (decide ((0 : Int) ≤ b ∧ b < (↑l : Int)) && (Nat.ble (Int.toNat a * 2 + 2) (List.length cells) && etasOk [Leaf.f, Leaf.sl] cells (Int.toNat a * 2) && (decide ((0 : Int) ≤ a ∧ a < (↑l : Int)) && true))))))))) = true) : Con prog 155 [jKinds, .agg [.int .i64 5, .int .i64 a, .int .i64 b, .flt c], .int .i64 (i : Int), .flt q, .snap cells l] nb (AV.flt (fdiv (fsub (AV.toFlt (List.getD (AV.sCells (List.getD cells (Int.toNat a * 2 + 1) .undef)) (Int.toNat ↑i * 1) .undef)) (fmul q (AV.toFlt (List.getD (AV.sCells (List.getD cells (Int.toNat b * 2 + 1) .undef)) (Int.toNat ↑i * 1) .undef)))) (AV.toFlt (List.getD cells (Int.toNat b * 2) .undef)))) [] :=
  con_evF OM0 mixed (qs := []) (dec := []) (r := ⟨(AV.flt (fdiv (fsub (AV.toFlt (List.getD (AV.sCells (List.getD cells (Int.toNat a * 2 + 1) .undef)) (Int.toNat ↑i * 1) .undef)) (fmul q (AV.toFlt (List.getD (AV.sCells (List.getD cells (Int.toNat b * 2 + 1) .undef)) (Int.toNat ↑i * 1) .undef)))) (AV.toFlt (List.getD cells (Int.toNat b * 2) .undef)))), [], (Nat.blt (Int.toNat ↑i * 1) (List.length (AV.sCells (List.getD cells (Int.toNat b * 2 + 1) .undef))) && AV.isFlt (List.getD (AV.sCells (List.getD cells (Int.toNat b * 2 + 1) .undef)) (Int.toNat ↑i * 1) .undef) && (decide ((0 : Int) ≤ (↑i : Int) ∧ (↑i : Int) < (↑(AV.sLen (List.getD cells (Int.toNat b * 2 + 1) .undef)) : Int)) && (Nat.blt (Int.toNat ↑i * 1) (List.length (AV.sCells (List.getD cells (Int.toNat a * 2 + 1) .undef))) && AV.isFlt (List.getD (AV.sCells (List.getD cells (Int.toNat a * 2 + 1) .undef)) (Int.toNat ↑i * 1) .undef) && (decide ((0 : Int) ≤ (↑i : Int) ∧ (↑i : Int) < (↑(AV.sLen (List.getD cells (Int.toNat a * 2 + 1) .undef)) : Int)) && (Nat.ble (Int.toNat b * 2 + 2) (List.length cells) && etasOk [Leaf.f, Leaf.sl] cells (Int.toNat b * 2) && (decide ((0 : Int) ≤ b ∧ b < (↑l : Int)) && (Nat.ble (Int.toNat a * 2 + 2) (List.length cells) && etasOk [Leaf.f, Leaf.sl] cells (Int.toNat a * 2) && (decide ((0 : Int) ≤ a ∧ a < (↑l : Int)) && true))))))))⟩) (by kernel_rfl) hok
end Go.Eng.Try
/- Tapes, part 1: the law's own tapes (envelopelaw3.Make), piece by piece. Condition: as each piece says. Written by wip/tools/kg.py. -/
namespace Go.Eng.Try
open Go Go.Eng Go.RowKit Go.Proofs.Try
def min3 (m : Nat) : Int := if (m : Int) < 3 then (m : Int) else 3
noncomputable abbrev CM : Ctx := ctxD prog es4 8 (shallow [])
noncomputable def mkC : Code := codeOf prog 41
noncomputable def mkL : Code := cL (cL (cR (cL (cR (cR (cR (cR mkC)))))))

theorem OM : OrcOK CM.P CM.orc := ctxD_ok mixed es4_ok 8 _

theorem mkA (n : Int) (ns : List AV) (len : Nat) (d : Bool) (w0 : World) (dec1 : List Bool) : Goes CM w0 120 (cL mkC) (St0 [.int .i64 n, .snap ns len, .bool d] []) Ex.normal (mk [0,1,2,6] [.int .i64 n, .snap ns len, .bool d, .ptr 0 0] [ABlk.mk [.int .i64 0, .nils, .nils] 53] dec1) :=
  goes_view' OM mixed (qs := []) (fuel := 8) (by kernel_rfl) rfl dec1
theorem mkB (n : Int) (ns : List AV) (len : Nat) (d : Bool) (w0 : World) (dec0 dec1 : List Bool) : Goes CM w0 120 (cL (cR mkC)) (mk [0,1,2,6] [.int .i64 n, .snap ns len, .bool d, .ptr 0 0] [⟨[.int .i64 0, .nils, .nils], 53⟩] dec0) Ex.normal (mk [0,1,2,6,7] [.int .i64 n, .snap ns len, .bool d, .ptr 0 0, .ptr 1 0] [ABlk.mk [.int .i64 0, .nils, .nils] 53, ABlk.mk [.int .i64 (IntKind.wrap IntKind.i64 ((1 : Int) + wi n (3 : Int))), .nils, .nils] 53] dec1) :=
  goes_re (dec := []) (goes_view' OM mixed (qs := []) (fuel := 8) (by kernel_rfl) rfl dec1)
theorem mkD1 (n : Int) (ns : List AV) (len : Nat) (d : Bool) (w0 : World) (dec0 dec1 : List Bool) : Goes CM w0 120 (cL (cR (cR mkC))) (mk [0,1,2,6,7] [.int .i64 n, .snap ns len, .bool d, .ptr 0 0, .ptr 1 0] [⟨[.int .i64 0, .nils, .nils], 53⟩, ⟨[.int .i64 1, .nils, .nils], 53⟩] dec0) Ex.normal (mk [0,1,2,6,7] [.int .i64 n, .snap ns len, .bool d, .ptr 0 0, .ptr 1 0] [ABlk.mk [.int .i64 0, .nils, .nils] 53, ABlk.mk [.int .i64 1, .slc 2 0 1, .nils] 53, ABlk.mk [.int .i64 1, .int .i64 0, .int .i64 0, .flt 0] 57] dec1) :=
  goes_re (dec := []) (goes_view' OM mixed (qs := []) (fuel := 8) (by kernel_rfl) rfl dec1)
theorem mkD2 (n : Int) (ns : List AV) (len : Nat) (d : Bool) (w0 : World) (dec0 dec1 : List Bool) : Goes CM w0 120 (cL (cR (cR mkC))) (mk [0,1,2,6,7] [.int .i64 n, .snap ns len, .bool d, .ptr 0 0, .ptr 1 0] [⟨[.int .i64 0, .nils, .nils], 53⟩, ⟨[.int .i64 2, .nils, .nils], 53⟩] dec0) Ex.normal (mk [0,1,2,6,7] [.int .i64 n, .snap ns len, .bool d, .ptr 0 0, .ptr 1 0] [ABlk.mk [.int .i64 0, .nils, .nils] 53, ABlk.mk [.int .i64 2, .slc 2 0 2, .nils] 53, ABlk.mk [.int .i64 1, .int .i64 0, .int .i64 0, .flt 0, .int .i64 1, .int .i64 1, .int .i64 0, .flt 0] 57] dec1) :=
  goes_re (dec := []) (goes_view' OM mixed (qs := []) (fuel := 8) (by kernel_rfl) rfl dec1)
theorem mkD3 (n : Int) (ns : List AV) (len : Nat) (d : Bool) (w0 : World) (dec0 dec1 : List Bool) : Goes CM w0 120 (cL (cR (cR mkC))) (mk [0,1,2,6,7] [.int .i64 n, .snap ns len, .bool d, .ptr 0 0, .ptr 1 0] [⟨[.int .i64 0, .nils, .nils], 53⟩, ⟨[.int .i64 3, .nils, .nils], 53⟩] dec0) Ex.normal (mk [0,1,2,6,7] [.int .i64 n, .snap ns len, .bool d, .ptr 0 0, .ptr 1 0] [ABlk.mk [.int .i64 0, .nils, .nils] 53, ABlk.mk [.int .i64 3, .slc 2 0 3, .nils] 53, ABlk.mk [.int .i64 1, .int .i64 0, .int .i64 0, .flt 0, .int .i64 1, .int .i64 1, .int .i64 0, .flt 0, .int .i64 1, .int .i64 2, .int .i64 0, .flt 0] 57] dec1) :=
  goes_re (dec := []) (goes_view' OM mixed (qs := []) (fuel := 8) (by kernel_rfl) rfl dec1)
theorem mkE (n : Int) (ns : List AV) (len : Nat) (d : Bool) (N : Int) (ops : List TOp) (m : Nat) (w0 : World) (dec0 dec1 : List Bool) (hok : (((List.all (opsL ops ++ [.int .i64 0, .int .i64 0, .int .i64 0, .flt (fdiv (fofint (IntKind.wrap IntKind.i64 (wi n (17 : Int) - (8 : Int)))) 4616189618054758400)]) AV.noOwn) && true && (decide (List.length (opsL ops) = m * 4 ∧ (m + 1) * 32 ≤ 140737488355328 ∧ m + 1 ≤ 9223372036854775807) && true))) = true) : Goes CM w0 120 (cL (cR (cR (cR mkC)))) (mk [0,1,2,6,7] [.int .i64 n, .snap ns len, .bool d, .ptr 0 0, .ptr 1 0] [⟨[.int .i64 0, .nils, .nils], 53⟩, ⟨[.int .i64 N, .slc 2 0 m, .nils], 53⟩, ⟨opsL ops, 57⟩] dec0) Ex.normal (mk [0,1,2,6,7] [.int .i64 n, .snap ns len, .bool d, .ptr 0 0, .ptr 1 0] [ABlk.mk [.int .i64 0, .nils, .nils] 53, ABlk.mk [.int .i64 N, .slc 2 0 (m + 1), .nils] 53, ABlk.mk (opsL ops ++ [.int .i64 0, .int .i64 0, .int .i64 0, .flt (fdiv (fofint (IntKind.wrap IntKind.i64 (wi n (17 : Int) - (8 : Int)))) 4616189618054758400)]) 57] dec1) :=
  goes_re (dec := []) (goes_viewK' OM mixed (qs := []) (fuel := 8) [.lit, .lit, .flat] (by kernel_rfl) hok dec1)
theorem mkF (n : Int) (ns : List AV) (len : Nat) (d : Bool) (N : Int) (ops : List TOp) (m : Nat) (w0 : World) (dec0 dec1 : List Bool) (hok : (((List.all (opsL ops) AV.noOwn) && true && true)) = true) : Goes CM w0 120 (cL (cL (cR (cR (cR (cR mkC)))))) (mk [0,1,2,6,7] [.int .i64 n, .snap ns len, .bool d, .ptr 0 0, .ptr 1 0] [⟨[.int .i64 0, .nils, .nils], 53⟩, ⟨[.int .i64 N, .slc 2 0 m, .nils], 53⟩, ⟨opsL ops, 57⟩] dec0) Ex.normal (mk [0,1,2,6,7,9] [.int .i64 n, .snap ns len, .bool d, .ptr 0 0, .ptr 1 0, .int .i64 0] [ABlk.mk [.int .i64 0, .nils, .nils] 53, ABlk.mk [.int .i64 N, .slc 2 0 m, .nils] 53, ABlk.mk (opsL ops) 57] dec1) :=
  goes_re (dec := []) (goes_viewK' OM mixed (qs := []) (fuel := 8) [.lit, .lit, .flat] (by kernel_rfl) hok dec1)
theorem mkIf00 (n : Int) (ns : List AV) (len : Nat)  (N : Int) (ops : List TOp) (m : Nat) (i : Int) (w0 : World) (dec0 dec1 : List Bool) (hok : (((List.all (opsL ops ++ [.int .i64 (IntKind.wrap IntKind.i64 ((2 : Int) + wi (AV.toInt (List.getD ns (Int.toNat i * 1) .undef)) (3 : Int))), .int .i64 (wi (IntKind.wrap IntKind.i64 (Int.tdiv (AV.toInt (List.getD ns (Int.toNat i * 1) .undef)) (4 : Int))) (↑m : Int)), .int .i64 (wi (IntKind.wrap IntKind.i64 (Int.tdiv (AV.toInt (List.getD ns (Int.toNat i * 1) .undef)) (40 : Int))) (↑m : Int)), .flt 0]) AV.noOwn) && true && (decide (List.length (opsL ops) = m * 4 ∧ (m + 1) * 32 ≤ 140737488355328 ∧ m + 1 ≤ 9223372036854775807) && (!wi (AV.toInt (List.getD ns (Int.toNat i * 1) .undef)) (11 : Int) == (0 : Int) && ((↑m : Int) != (0 : Int) && ((↑m : Int) != (0 : Int) && (Nat.blt (Int.toNat i * 1) (List.length ns) && AV.isInt IntKind.i64 (List.getD ns (Int.toNat i * 1) .undef) && (decide ((0 : Int) ≤ i ∧ i < (↑len : Int)) && (decide (i < (8 : Int)) && (decide (i < (↑len : Int)) && true)))))))))) = true) : Goes CM w0 120 (mkL) (mk [0,1,2,6,7,9] [.int .i64 n, .snap ns len, .bool false, .ptr 0 0, .ptr 1 0, .int .i64 i] [⟨[.int .i64 0, .nils, .nils], 53⟩, ⟨[.int .i64 N, .slc 2 0 m, .nils], 53⟩, ⟨opsL ops, 57⟩] dec0) Ex.normal (mk [0,1,2,6,7,9] [.int .i64 n, .snap ns len, .bool false, .ptr 0 0, .ptr 1 0, .int .i64 (IntKind.wrap IntKind.i64 (i + (1 : Int)))] [ABlk.mk [.int .i64 0, .nils, .nils] 53, ABlk.mk [.int .i64 N, .slc 2 0 (m + 1), .nils] 53, ABlk.mk (opsL ops ++ [.int .i64 (IntKind.wrap IntKind.i64 ((2 : Int) + wi (AV.toInt (List.getD ns (Int.toNat i * 1) .undef)) (3 : Int))), .int .i64 (wi (IntKind.wrap IntKind.i64 (Int.tdiv (AV.toInt (List.getD ns (Int.toNat i * 1) .undef)) (4 : Int))) (↑m : Int)), .int .i64 (wi (IntKind.wrap IntKind.i64 (Int.tdiv (AV.toInt (List.getD ns (Int.toNat i * 1) .undef)) (40 : Int))) (↑m : Int)), .flt 0]) 57] dec1) :=
  goes_re (dec := [true,true,false,false]) (goes_viewK' OM mixed (qs := [46,49,76,80]) (fuel := 8) [.lit, .lit, .flat] (by kernel_rfl) hok dec1)
theorem mkIf01 (n : Int) (ns : List AV) (len : Nat)  (N : Int) (ops : List TOp) (m : Nat) (i : Int) (w0 : World) (dec0 dec1 : List Bool) (hok : (((List.all (opsL ops ++ [.int .i64 0, .int .i64 0, .int .i64 0, .flt (fdiv (fofint (IntKind.wrap IntKind.i64 (wi (IntKind.wrap IntKind.i64 (Int.tdiv (AV.toInt (List.getD ns (Int.toNat i * 1) .undef)) (11 : Int))) (33 : Int) - (16 : Int)))) 4620693217682128896)]) AV.noOwn) && true && (decide (List.length (opsL ops) = m * 4 ∧ (m + 1) * 32 ≤ 140737488355328 ∧ m + 1 ≤ 9223372036854775807) && (wi (AV.toInt (List.getD ns (Int.toNat i * 1) .undef)) (11 : Int) == (0 : Int) && ((↑m : Int) != (0 : Int) && ((↑m : Int) != (0 : Int) && (Nat.blt (Int.toNat i * 1) (List.length ns) && AV.isInt IntKind.i64 (List.getD ns (Int.toNat i * 1) .undef) && (decide ((0 : Int) ≤ i ∧ i < (↑len : Int)) && (decide (i < (8 : Int)) && (decide (i < (↑len : Int)) && true)))))))))) = true) : Goes CM w0 120 (mkL) (mk [0,1,2,6,7,9] [.int .i64 n, .snap ns len, .bool false, .ptr 0 0, .ptr 1 0, .int .i64 i] [⟨[.int .i64 0, .nils, .nils], 53⟩, ⟨[.int .i64 N, .slc 2 0 m, .nils], 53⟩, ⟨opsL ops, 57⟩] dec0) Ex.normal (mk [0,1,2,6,7,9] [.int .i64 n, .snap ns len, .bool false, .ptr 0 0, .ptr 1 0, .int .i64 (IntKind.wrap IntKind.i64 (i + (1 : Int)))] [ABlk.mk [.int .i64 0, .nils, .nils] 53, ABlk.mk [.int .i64 N, .slc 2 0 (m + 1), .nils] 53, ABlk.mk (opsL ops ++ [.int .i64 0, .int .i64 0, .int .i64 0, .flt (fdiv (fofint (IntKind.wrap IntKind.i64 (wi (IntKind.wrap IntKind.i64 (Int.tdiv (AV.toInt (List.getD ns (Int.toNat i * 1) .undef)) (11 : Int))) (33 : Int) - (16 : Int)))) 4620693217682128896)]) 57] dec1) :=
  goes_re (dec := [true,true,false,true]) (goes_viewK' OM mixed (qs := [46,49,76,80]) (fuel := 8) [.lit, .lit, .flat] (by kernel_rfl) hok dec1)
theorem mkIt00 (n : Int) (ns : List AV) (len : Nat)  (N : Int) (ops : List TOp) (m : Nat) (i : Int) (w0 : World) (dec0 dec1 : List Bool) (hok : (((List.all (opsL ops ++ [.int .i64 (IntKind.wrap IntKind.i64 ((2 : Int) + wi (AV.toInt (List.getD ns (Int.toNat i * 1) .undef)) (3 : Int))), .int .i64 (wi (IntKind.wrap IntKind.i64 (Int.tdiv (AV.toInt (List.getD ns (Int.toNat i * 1) .undef)) (4 : Int))) (↑m : Int)), .int .i64 (wi (IntKind.wrap IntKind.i64 (Int.tdiv (AV.toInt (List.getD ns (Int.toNat i * 1) .undef)) (40 : Int))) (↑m : Int)), .flt 0]) AV.noOwn) && true && (decide (List.length (opsL ops) = m * 4 ∧ (m + 1) * 32 ≤ 140737488355328 ∧ m + 1 ≤ 9223372036854775807) && (!wi (AV.toInt (List.getD ns (Int.toNat i * 1) .undef)) (11 : Int) == (0 : Int) && (!wi (AV.toInt (List.getD ns (Int.toNat i * 1) .undef)) (7 : Int) == (0 : Int) && ((↑m : Int) != (0 : Int) && ((↑m : Int) != (0 : Int) && (Nat.blt (Int.toNat i * 1) (List.length ns) && AV.isInt IntKind.i64 (List.getD ns (Int.toNat i * 1) .undef) && (decide ((0 : Int) ≤ i ∧ i < (↑len : Int)) && (decide (i < (8 : Int)) && (decide (i < (↑len : Int)) && true))))))))))) = true) : Goes CM w0 120 (mkL) (mk [0,1,2,6,7,9] [.int .i64 n, .snap ns len, .bool true, .ptr 0 0, .ptr 1 0, .int .i64 i] [⟨[.int .i64 0, .nils, .nils], 53⟩, ⟨[.int .i64 N, .slc 2 0 m, .nils], 53⟩, ⟨opsL ops, 57⟩] dec0) Ex.normal (mk [0,1,2,6,7,9] [.int .i64 n, .snap ns len, .bool true, .ptr 0 0, .ptr 1 0, .int .i64 (IntKind.wrap IntKind.i64 (i + (1 : Int)))] [ABlk.mk [.int .i64 0, .nils, .nils] 53, ABlk.mk [.int .i64 N, .slc 2 0 (m + 1), .nils] 53, ABlk.mk (opsL ops ++ [.int .i64 (IntKind.wrap IntKind.i64 ((2 : Int) + wi (AV.toInt (List.getD ns (Int.toNat i * 1) .undef)) (3 : Int))), .int .i64 (wi (IntKind.wrap IntKind.i64 (Int.tdiv (AV.toInt (List.getD ns (Int.toNat i * 1) .undef)) (4 : Int))) (↑m : Int)), .int .i64 (wi (IntKind.wrap IntKind.i64 (Int.tdiv (AV.toInt (List.getD ns (Int.toNat i * 1) .undef)) (40 : Int))) (↑m : Int)), .flt 0]) 57] dec1) :=
  goes_re (dec := [true,true,false,false]) (goes_viewK' OM mixed (qs := [46,49,76,80]) (fuel := 8) [.lit, .lit, .flat] (by kernel_rfl) hok dec1)
theorem mkIt01 (n : Int) (ns : List AV) (len : Nat)  (N : Int) (ops : List TOp) (m : Nat) (i : Int) (w0 : World) (dec0 dec1 : List Bool) (hok : (((List.all (opsL ops ++ [.int .i64 0, .int .i64 0, .int .i64 0, .flt (fdiv (fofint (IntKind.wrap IntKind.i64 (wi (IntKind.wrap IntKind.i64 (Int.tdiv (AV.toInt (List.getD ns (Int.toNat i * 1) .undef)) (11 : Int))) (33 : Int) - (16 : Int)))) 4620693217682128896)]) AV.noOwn) && true && (decide (List.length (opsL ops) = m * 4 ∧ (m + 1) * 32 ≤ 140737488355328 ∧ m + 1 ≤ 9223372036854775807) && (wi (AV.toInt (List.getD ns (Int.toNat i * 1) .undef)) (11 : Int) == (0 : Int) && (!wi (AV.toInt (List.getD ns (Int.toNat i * 1) .undef)) (7 : Int) == (0 : Int) && ((↑m : Int) != (0 : Int) && ((↑m : Int) != (0 : Int) && (Nat.blt (Int.toNat i * 1) (List.length ns) && AV.isInt IntKind.i64 (List.getD ns (Int.toNat i * 1) .undef) && (decide ((0 : Int) ≤ i ∧ i < (↑len : Int)) && (decide (i < (8 : Int)) && (decide (i < (↑len : Int)) && true))))))))))) = true) : Goes CM w0 120 (mkL) (mk [0,1,2,6,7,9] [.int .i64 n, .snap ns len, .bool true, .ptr 0 0, .ptr 1 0, .int .i64 i] [⟨[.int .i64 0, .nils, .nils], 53⟩, ⟨[.int .i64 N, .slc 2 0 m, .nils], 53⟩, ⟨opsL ops, 57⟩] dec0) Ex.normal (mk [0,1,2,6,7,9] [.int .i64 n, .snap ns len, .bool true, .ptr 0 0, .ptr 1 0, .int .i64 (IntKind.wrap IntKind.i64 (i + (1 : Int)))] [ABlk.mk [.int .i64 0, .nils, .nils] 53, ABlk.mk [.int .i64 N, .slc 2 0 (m + 1), .nils] 53, ABlk.mk (opsL ops ++ [.int .i64 0, .int .i64 0, .int .i64 0, .flt (fdiv (fofint (IntKind.wrap IntKind.i64 (wi (IntKind.wrap IntKind.i64 (Int.tdiv (AV.toInt (List.getD ns (Int.toNat i * 1) .undef)) (11 : Int))) (33 : Int) - (16 : Int)))) 4620693217682128896)]) 57] dec1) :=
  goes_re (dec := [true,true,false,true]) (goes_viewK' OM mixed (qs := [46,49,76,80]) (fuel := 8) [.lit, .lit, .flat] (by kernel_rfl) hok dec1)
theorem mkIt10 (n : Int) (ns : List AV) (len : Nat)  (N : Int) (ops : List TOp) (m : Nat) (i : Int) (w0 : World) (dec0 dec1 : List Bool) (hok : (((List.all (opsL ops ++ [.int .i64 5, .int .i64 (wi (IntKind.wrap IntKind.i64 (Int.tdiv (AV.toInt (List.getD ns (Int.toNat i * 1) .undef)) (4 : Int))) (↑m : Int)), .int .i64 (wi (IntKind.wrap IntKind.i64 (Int.tdiv (AV.toInt (List.getD ns (Int.toNat i * 1) .undef)) (40 : Int))) (↑m : Int)), .flt 0]) AV.noOwn) && true && (decide (List.length (opsL ops) = m * 4 ∧ (m + 1) * 32 ≤ 140737488355328 ∧ m + 1 ≤ 9223372036854775807) && (!wi (AV.toInt (List.getD ns (Int.toNat i * 1) .undef)) (11 : Int) == (0 : Int) && (wi (AV.toInt (List.getD ns (Int.toNat i * 1) .undef)) (7 : Int) == (0 : Int) && ((↑m : Int) != (0 : Int) && ((↑m : Int) != (0 : Int) && (Nat.blt (Int.toNat i * 1) (List.length ns) && AV.isInt IntKind.i64 (List.getD ns (Int.toNat i * 1) .undef) && (decide ((0 : Int) ≤ i ∧ i < (↑len : Int)) && (decide (i < (8 : Int)) && (decide (i < (↑len : Int)) && true))))))))))) = true) : Goes CM w0 120 (mkL) (mk [0,1,2,6,7,9] [.int .i64 n, .snap ns len, .bool true, .ptr 0 0, .ptr 1 0, .int .i64 i] [⟨[.int .i64 0, .nils, .nils], 53⟩, ⟨[.int .i64 N, .slc 2 0 m, .nils], 53⟩, ⟨opsL ops, 57⟩] dec0) Ex.normal (mk [0,1,2,6,7,9] [.int .i64 n, .snap ns len, .bool true, .ptr 0 0, .ptr 1 0, .int .i64 (IntKind.wrap IntKind.i64 (i + (1 : Int)))] [ABlk.mk [.int .i64 0, .nils, .nils] 53, ABlk.mk [.int .i64 N, .slc 2 0 (m + 1), .nils] 53, ABlk.mk (opsL ops ++ [.int .i64 5, .int .i64 (wi (IntKind.wrap IntKind.i64 (Int.tdiv (AV.toInt (List.getD ns (Int.toNat i * 1) .undef)) (4 : Int))) (↑m : Int)), .int .i64 (wi (IntKind.wrap IntKind.i64 (Int.tdiv (AV.toInt (List.getD ns (Int.toNat i * 1) .undef)) (40 : Int))) (↑m : Int)), .flt 0]) 57] dec1) :=
  goes_re (dec := [true,true,true,false]) (goes_viewK' OM mixed (qs := [46,49,76,80]) (fuel := 8) [.lit, .lit, .flat] (by kernel_rfl) hok dec1)
theorem mkIt11 (n : Int) (ns : List AV) (len : Nat)  (N : Int) (ops : List TOp) (m : Nat) (i : Int) (w0 : World) (dec0 dec1 : List Bool) (hok : (((List.all (opsL ops ++ [.int .i64 0, .int .i64 0, .int .i64 0, .flt (fdiv (fofint (IntKind.wrap IntKind.i64 (wi (IntKind.wrap IntKind.i64 (Int.tdiv (AV.toInt (List.getD ns (Int.toNat i * 1) .undef)) (11 : Int))) (33 : Int) - (16 : Int)))) 4620693217682128896)]) AV.noOwn) && true && (decide (List.length (opsL ops) = m * 4 ∧ (m + 1) * 32 ≤ 140737488355328 ∧ m + 1 ≤ 9223372036854775807) && (wi (AV.toInt (List.getD ns (Int.toNat i * 1) .undef)) (11 : Int) == (0 : Int) && (wi (AV.toInt (List.getD ns (Int.toNat i * 1) .undef)) (7 : Int) == (0 : Int) && ((↑m : Int) != (0 : Int) && ((↑m : Int) != (0 : Int) && (Nat.blt (Int.toNat i * 1) (List.length ns) && AV.isInt IntKind.i64 (List.getD ns (Int.toNat i * 1) .undef) && (decide ((0 : Int) ≤ i ∧ i < (↑len : Int)) && (decide (i < (8 : Int)) && (decide (i < (↑len : Int)) && true))))))))))) = true) : Goes CM w0 120 (mkL) (mk [0,1,2,6,7,9] [.int .i64 n, .snap ns len, .bool true, .ptr 0 0, .ptr 1 0, .int .i64 i] [⟨[.int .i64 0, .nils, .nils], 53⟩, ⟨[.int .i64 N, .slc 2 0 m, .nils], 53⟩, ⟨opsL ops, 57⟩] dec0) Ex.normal (mk [0,1,2,6,7,9] [.int .i64 n, .snap ns len, .bool true, .ptr 0 0, .ptr 1 0, .int .i64 (IntKind.wrap IntKind.i64 (i + (1 : Int)))] [ABlk.mk [.int .i64 0, .nils, .nils] 53, ABlk.mk [.int .i64 N, .slc 2 0 (m + 1), .nils] 53, ABlk.mk (opsL ops ++ [.int .i64 0, .int .i64 0, .int .i64 0, .flt (fdiv (fofint (IntKind.wrap IntKind.i64 (wi (IntKind.wrap IntKind.i64 (Int.tdiv (AV.toInt (List.getD ns (Int.toNat i * 1) .undef)) (11 : Int))) (33 : Int) - (16 : Int)))) 4620693217682128896)]) 57] dec1) :=
  goes_re (dec := [true,true,true,true]) (goes_viewK' OM mixed (qs := [46,49,76,80]) (fuel := 8) [.lit, .lit, .flat] (by kernel_rfl) hok dec1)
theorem mkX1 (n : Int) (ns : List AV) (len : Nat) (d : Bool) (i : Int) (N : Int) (ops : List TOp) (m : Nat) (w0 : World) (dec0 dec1 : List Bool) (hok : (((List.all (opsL ops) AV.noOwn) && true && (!decide (i < (↑len : Int)) && true))) = true) : Goes CM w0 120 (mkL) (mk [0,1,2,6,7,9] [.int .i64 n, .snap ns len, .bool d, .ptr 0 0, .ptr 1 0, .int .i64 i] [⟨[.int .i64 0, .nils, .nils], 53⟩, ⟨[.int .i64 N, .slc 2 0 m, .nils], 53⟩, ⟨opsL ops, 57⟩] dec0) (Ex.exit 2) (mk [0,1,2,6,7] [.int .i64 n, .snap ns len, .bool d, .ptr 0 0, .ptr 1 0] [ABlk.mk [.int .i64 0, .nils, .nils] 53, ABlk.mk [.int .i64 N, .slc 2 0 m, .nils] 53, ABlk.mk (opsL ops) 57] dec1) :=
  goes_re (dec := [false,false]) (goes_viewK' OM mixed (qs := [46,49,76,80]) (fuel := 8) [.lit, .lit, .flat] (by kernel_rfl) hok dec1)
theorem mkX2 (n : Int) (ns : List AV) (len : Nat) (d : Bool) (i : Int) (N : Int) (ops : List TOp) (m : Nat) (w0 : World) (dec0 dec1 : List Bool) (hok : (((List.all (opsL ops) AV.noOwn) && true && (!decide (i < (8 : Int)) && (decide (i < (↑len : Int)) && true)))) = true) : Goes CM w0 120 (mkL) (mk [0,1,2,6,7,9] [.int .i64 n, .snap ns len, .bool d, .ptr 0 0, .ptr 1 0, .int .i64 i] [⟨[.int .i64 0, .nils, .nils], 53⟩, ⟨[.int .i64 N, .slc 2 0 m, .nils], 53⟩, ⟨opsL ops, 57⟩] dec0) (Ex.exit 2) (mk [0,1,2,6,7] [.int .i64 n, .snap ns len, .bool d, .ptr 0 0, .ptr 1 0] [ABlk.mk [.int .i64 0, .nils, .nils] 53, ABlk.mk [.int .i64 N, .slc 2 0 m, .nils] 53, ABlk.mk (opsL ops) 57] dec1) :=
  goes_re (dec := [true,false]) (goes_viewK' OM mixed (qs := [46,49,76,80]) (fuel := 8) [.lit, .lit, .flat] (by kernel_rfl) hok dec1)
theorem mkG1 (n : Int) (ns : List AV) (len : Nat) (d : Bool) (ops : List TOp) (m : Nat) (w0 : World) (dec0 dec1 : List Bool) (hok : (((List.all (opsL ops) AV.noOwn) && true && (min3 m != (0 : Int) && true))) = true) : Goes CM w0 120 (cR (cR (cR (cR (cR mkC))))) (mk [0,1,2,6,7] [.int .i64 n, .snap ns len, .bool d, .ptr 0 0, .ptr 1 0] [⟨[.int .i64 0, .nils, .nils], 53⟩, ⟨[.int .i64 1, .slc 2 0 m, .nils], 53⟩, ⟨opsL ops, 57⟩] dec0) Ex.ret (mk [6] [.ptr 0 0] [ABlk.mk [.int .i64 1, .slc 1 0 m, .slc 2 0 1] 53, ABlk.mk (opsL ops) 57, ABlk.mk [.int .i64 (IntKind.wrap IntKind.i64 (IntKind.wrap IntKind.i64 ((↑m : Int) - (1 : Int)) - wi (IntKind.wrap IntKind.i64 (IntKind.wrap IntKind.i64 (Int.tdiv n (3 : Int)) + (0 : Int))) (min3 m)))] 3] dec1) :=
  goes_re (dec := []) (goes_viewK' OM mixed (qs := []) (fuel := 8) [.lit, .flat, .lit] (by kernel_rfl) hok dec1)
theorem mkG2 (n : Int) (ns : List AV) (len : Nat) (d : Bool) (ops : List TOp) (m : Nat) (w0 : World) (dec0 dec1 : List Bool) (hok : (((List.all (opsL ops) AV.noOwn) && true && (min3 m != (0 : Int) && (min3 m != (0 : Int) && true)))) = true) : Goes CM w0 120 (cR (cR (cR (cR (cR mkC))))) (mk [0,1,2,6,7] [.int .i64 n, .snap ns len, .bool d, .ptr 0 0, .ptr 1 0] [⟨[.int .i64 0, .nils, .nils], 53⟩, ⟨[.int .i64 2, .slc 2 0 m, .nils], 53⟩, ⟨opsL ops, 57⟩] dec0) Ex.ret (mk [6] [.ptr 0 0] [ABlk.mk [.int .i64 2, .slc 1 0 m, .slc 2 0 2] 53, ABlk.mk (opsL ops) 57, ABlk.mk [.int .i64 (IntKind.wrap IntKind.i64 (IntKind.wrap IntKind.i64 ((↑m : Int) - (1 : Int)) - wi (IntKind.wrap IntKind.i64 (IntKind.wrap IntKind.i64 (Int.tdiv n (3 : Int)) + (0 : Int))) (min3 m))), .int .i64 (IntKind.wrap IntKind.i64 (IntKind.wrap IntKind.i64 ((↑m : Int) - (1 : Int)) - wi (IntKind.wrap IntKind.i64 (IntKind.wrap IntKind.i64 (Int.tdiv n (3 : Int)) + (1 : Int))) (min3 m)))] 3] dec1) :=
  goes_re (dec := []) (goes_viewK' OM mixed (qs := []) (fuel := 8) [.lit, .flat, .lit] (by kernel_rfl) hok dec1)
theorem mkG3 (n : Int) (ns : List AV) (len : Nat) (d : Bool) (ops : List TOp) (m : Nat) (w0 : World) (dec0 dec1 : List Bool) (hok : (((List.all (opsL ops) AV.noOwn) && true && (min3 m != (0 : Int) && (min3 m != (0 : Int) && (min3 m != (0 : Int) && true))))) = true) : Goes CM w0 120 (cR (cR (cR (cR (cR mkC))))) (mk [0,1,2,6,7] [.int .i64 n, .snap ns len, .bool d, .ptr 0 0, .ptr 1 0] [⟨[.int .i64 0, .nils, .nils], 53⟩, ⟨[.int .i64 3, .slc 2 0 m, .nils], 53⟩, ⟨opsL ops, 57⟩] dec0) Ex.ret (mk [6] [.ptr 0 0] [ABlk.mk [.int .i64 3, .slc 1 0 m, .slc 2 0 3] 53, ABlk.mk (opsL ops) 57, ABlk.mk [.int .i64 (IntKind.wrap IntKind.i64 (IntKind.wrap IntKind.i64 ((↑m : Int) - (1 : Int)) - wi (IntKind.wrap IntKind.i64 (IntKind.wrap IntKind.i64 (Int.tdiv n (3 : Int)) + (0 : Int))) (min3 m))), .int .i64 (IntKind.wrap IntKind.i64 (IntKind.wrap IntKind.i64 ((↑m : Int) - (1 : Int)) - wi (IntKind.wrap IntKind.i64 (IntKind.wrap IntKind.i64 (Int.tdiv n (3 : Int)) + (1 : Int))) (min3 m))), .int .i64 (IntKind.wrap IntKind.i64 (IntKind.wrap IntKind.i64 ((↑m : Int) - (1 : Int)) - wi (IntKind.wrap IntKind.i64 (IntKind.wrap IntKind.i64 (Int.tdiv n (3 : Int)) + (2 : Int))) (min3 m)))] 3] dec1) :=
  goes_re (dec := []) (goes_viewK' OM mixed (qs := []) (fuel := 8) [.lit, .flat, .lit] (by kernel_rfl) hok dec1)
end Go.Eng.Try
/- Floats, part 1: magnitudes by their rung; rounding is monotone and exact where it can be. Condition: rungs up to infinity's. -/
namespace Go.Eng
open Go

/-- The magnitude of a rung, in units of the least. -/
def mag (r : Nat) : Nat := if r < 4503599627370496 then r else (4503599627370496 + r % 4503599627370496) * 2 ^ (r / 4503599627370496 - 1)

theorem mag_at (E k : Nat) (h1 : k ≤ 9007199254740992) (h2 : E = 0 ∨ 4503599627370496 ≤ k) : mag (E * 4503599627370496 + k) = k * 2 ^ E := by
  unfold mag
  by_cases hk : k < 4503599627370496
  · have hE : E = 0 := by omega
    subst hE
    rw [if_pos (by omega), Nat.zero_mul, Nat.zero_add, Nat.pow_zero, Nat.mul_one]
  · rw [if_neg (by omega)]
    by_cases hk2 : k = 9007199254740992
    · subst hk2
      have e1 : (E * 4503599627370496 + 9007199254740992) % 4503599627370496 = 0 := by omega
      have e2 : (E * 4503599627370496 + 9007199254740992) / 4503599627370496 - 1 = E + 1 := by omega
      rw [e1, e2, Nat.pow_succ]
      omega
    · have e1 : (E * 4503599627370496 + k) % 4503599627370496 = k - 4503599627370496 := by omega
      have e2 : (E * 4503599627370496 + k) / 4503599627370496 - 1 = E := by omega
      have e3 : 4503599627370496 + (k - 4503599627370496) = k := by omega
      rw [e1, e2, e3]

theorem mag_succ (r : Nat) : mag (r + 1) = mag r + 2 ^ (r / 4503599627370496 - 1) := by
  by_cases h : r < 4503599627370496
  · have e3 : r / 4503599627370496 - 1 = 0 := by omega
    rw [e3]
    by_cases h2 : r + 1 < 4503599627370496
    · unfold mag
      rw [if_pos h, if_pos h2]
    · have h3 : r = 4503599627370495 := by omega
      subst h3
      decide +kernel
  · have e1 := mag_at (r / 4503599627370496 - 1) (4503599627370496 + r % 4503599627370496) (by omega) (.inr (by omega))
    have e2 := mag_at (r / 4503599627370496 - 1) (4503599627370496 + r % 4503599627370496 + 1) (by omega) (.inr (by omega))
    have e3 : (r / 4503599627370496 - 1) * 4503599627370496 + (4503599627370496 + r % 4503599627370496) = r := by omega
    rw [e3] at e1
    rw [show (r / 4503599627370496 - 1) * 4503599627370496 + (4503599627370496 + r % 4503599627370496 + 1) = r + 1 by omega] at e2
    rw [e1, e2, Nat.add_mul, Nat.one_mul]

theorem mag_lt_succ (r : Nat) : mag r < mag (r + 1) := by
  rw [mag_succ]
  have := Nat.two_pow_pos (r / 4503599627370496 - 1)
  omega

theorem mag_mono {q r : Nat} (h : q ≤ r) : mag q ≤ mag r := by
  induction r with
  | zero => have : q = 0 := by omega
            rw [this]; exact Nat.le_refl _
  | succ r ih =>
    by_cases hq : q = r + 1
    · rw [hq]; exact Nat.le_refl _
    · exact Nat.le_trans (ih (by omega)) (Nat.le_of_lt (mag_lt_succ r))

theorem mag_strict {q r : Nat} (h : q < r) : mag q < mag r := Nat.lt_of_lt_of_le (mag_lt_succ q) (mag_mono h)
theorem mag_le {q r : Nat} : mag q ≤ mag r ↔ q ≤ r := ⟨fun h => by
  by_cases hq : q ≤ r
  · exact hq
  · have := mag_strict (show r < q by omega); omega, mag_mono⟩
theorem mag_inj {q r : Nat} (h : mag q = mag r) : q = r := by
  have h1 := (mag_le (q := q) (r := r)).1 (by omega)
  have h2 := (mag_le (q := r) (r := q)).1 (by omega)
  omega
theorem mag_zero : mag 0 = 0 := by simp [mag]

/-! ### Cutting -/
theorem cut_le {neg : Bool} {n b m : Nat} (h : m * 2 ^ b ≤ n) : m ≤ Ieee.Toward.even.cut neg n b := by
  unfold Ieee.Toward.cut
  simp only
  rw [Nat.one_shiftLeft]
  by_cases hb : b ≤ n.log2 + 2
  · rw [Nat.min_eq_left hb]
    have h1 : m ≤ n / 2 ^ b := (Nat.le_div_iff_mul_le (Nat.two_pow_pos b)).2 h
    omega
  · have hn : n < 2 ^ (n.log2 + 1) := Nat.lt_log2_self
    have hlt : n < 2 ^ b := Nat.lt_of_lt_of_le hn (Nat.pow_le_pow_right (by omega) (by omega))
    have : m = 0 := by
      cases m with
      | zero => rfl
      | succ m =>
        exfalso
        have : 2 ^ b ≤ (m + 1) * 2 ^ b := Nat.le_mul_of_pos_left _ (by omega)
        omega
    rw [this]
    exact Nat.zero_le _

theorem le_cut {neg : Bool} {n b m : Nat} (h : n ≤ m * 2 ^ b) : Ieee.Toward.even.cut neg n b ≤ m := by
  unfold Ieee.Toward.cut
  simp only
  rw [Nat.one_shiftLeft]
  by_cases hb : b ≤ n.log2 + 2
  · rw [Nat.min_eq_left hb]
    have hp := Nat.two_pow_pos b
    have h0 := Nat.div_add_mod n (2 ^ b)
    have h1 : n / 2 ^ b ≤ m := by
      have := Nat.div_le_div_right (c := 2 ^ b) h
      rwa [Nat.mul_div_cancel _ hp] at this
    by_cases hr : n % 2 ^ b = 0
    · rw [hr]
      have : ¬ (2 ^ b < 2 * 0) := by omega
      have h2 : ((2 ^ b == 2 * 0) : Bool) = false := by
        simp only [Nat.mul_zero, beq_eq_false_iff_ne, ne_eq]
        omega
      simp only [this, h2, decide_false, Bool.false_and, Bool.or_false, Bool.toNat_false, Nat.add_zero]
      exact h1
    · have h2 : n / 2 ^ b < m := by
        rcases Nat.lt_or_ge (n / 2 ^ b) m with g | g
        · exact g
        · exfalso
          have e : n / 2 ^ b = m := by omega
          rw [e, Nat.mul_comm] at h0
          omega
      have h3 := Bool.toNat_le (decide (2 ^ b < 2 * (n % 2 ^ b)) || (2 ^ b == 2 * (n % 2 ^ b)) && n / 2 ^ b % 2 == 1)
      omega
  · have hn : n < 2 ^ (n.log2 + 1) := Nat.lt_log2_self
    rw [Nat.min_eq_right (by omega)]
    have e2 : 2 ^ (n.log2 + 2) = 2 * 2 ^ (n.log2 + 1) := by rw [Nat.pow_succ]; omega
    have e3 : n / 2 ^ (n.log2 + 2) = 0 := Nat.div_eq_of_lt (by omega)
    have e4 : n % 2 ^ (n.log2 + 2) = n := Nat.mod_eq_of_lt (by omega)
    rw [e3, e4]
    have h2 : ¬ (2 ^ (n.log2 + 2) < 2 * n) := by omega
    have h3 : ((2 ^ (n.log2 + 2) == 2 * n) : Bool) = false := by
      simp only [beq_eq_false_iff_ne, ne_eq]
      omega
    simp only [h2, h3, decide_false, Bool.false_and, Bool.or_false, Bool.toNat_false, Nat.add_zero]
    omega

end Go.Eng
/- Floats, part 2: the rung nearest to a number. Condition: the number's place is told from far enough below. -/
namespace Go.Eng
open Go

def lastOf (m : Nat) (p : Int) : Int := max (p + m.log2 - 52) (-1074)
def keptOf (m : Nat) (p : Int) : Nat := Ieee.Toward.even.cut false (m <<< (p - lastOf m p).toNat) (lastOf m p - p).toNat
def rungOf (m : Nat) (p : Int) : Nat := if m = 0 then 0 else min ((lastOf m p + 1074).toNat * 4503599627370496 + keptOf m p) 9218868437227405312

theorem lp64 : Ieee.double.leastPlace = -1074 := by decide +kernel

theorem nearest_eq (neg : Bool) (m : Nat) (p : Int) : Ieee.double.nearest neg m p = Ieee.double.word neg (rungOf m p) := by
  unfold Ieee.Format.nearest rungOf keptOf lastOf
  by_cases h : m = 0
  · simp [h]
  · rw [if_neg h, if_neg h]
    simp only [bi64, in64, lp64]
    have e1 : (Ieee.double.fractionBits : Int) = 52 := rfl
    rw [e1, show ∀ x : Int, x - -1074 = x + 1074 from fun x => by omega]
    rfl

/-- What is kept lies in its binade. -/
theorem kept_facts (m : Nat) (p : Int) (hm : m ≠ 0) : keptOf m p ≤ 9007199254740992 ∧ ((lastOf m p + 1074).toNat = 0 ∨ 4503599627370496 ≤ keptOf m p) ∧
    m <<< (p - lastOf m p).toNat < 9007199254740992 * 2 ^ (lastOf m p - p).toNat ∧ ((lastOf m p + 1074).toNat = 0 ∨ 4503599627370496 * 2 ^ (lastOf m p - p).toNat ≤ m <<< (p - lastOf m p).toNat) := by
  have hL : 2 ^ m.log2 ≤ m := Nat.log2_self_le hm
  have hU : m < 2 ^ (m.log2 + 1) := Nat.lt_log2_self
  have hl : lastOf m p = p + m.log2 - 52 ∨ lastOf m p = -1074 := by unfold lastOf; omega
  have hg : p + m.log2 - 52 ≤ lastOf m p := by unfold lastOf; omega
  generalize hlast : lastOf m p = l at *
  have e52 : (4503599627370496 : Nat) = 2 ^ 52 := by decide +kernel
  have e53 : (9007199254740992 : Nat) = 2 ^ 53 := by decide +kernel
  have hupper : m <<< (p - l).toNat < 9007199254740992 * 2 ^ (l - p).toNat := by
    rw [Nat.shiftLeft_eq, e53, ← Nat.pow_add]
    refine Nat.lt_of_lt_of_le (Nat.mul_lt_mul_of_pos_right hU (Nat.two_pow_pos _)) ?_
    rw [← Nat.pow_add]
    exact Nat.pow_le_pow_right (by omega) (by omega)
  have hlower : (l + 1074).toNat = 0 ∨ 4503599627370496 * 2 ^ (l - p).toNat ≤ m <<< (p - l).toNat := by
    rcases hl with h | h
    · right
      rw [Nat.shiftLeft_eq, e52, ← Nat.pow_add]
      refine Nat.le_trans ?_ (Nat.mul_le_mul_right _ hL)
      rw [← Nat.pow_add]
      exact Nat.pow_le_pow_right (by omega) (by omega)
    · left; omega
  refine ⟨?_, ?_, hupper, hlower⟩
  · unfold keptOf
    rw [hlast]
    exact le_cut (Nat.le_of_lt hupper)
  · rcases hlower with h | h
    · exact .inl h
    · right
      unfold keptOf
      rw [hlast]
      exact cut_le h

section
variable {m : Nat} {p : Int} {K : Nat}

/-- The number against what is cut. -/
theorem scale_eq (hK : 1074 ≤ K) (hp : 0 ≤ p + K) : m <<< (p - lastOf m p).toNat * (2 ^ (lastOf m p + 1074).toNat * 2 ^ (K - 1074)) = m * 2 ^ (p + K).toNat * 2 ^ (lastOf m p - p).toNat := by
  have hl : -1074 ≤ lastOf m p := by unfold lastOf; omega
  generalize lastOf m p = l at *
  rw [Nat.shiftLeft_eq, Nat.mul_assoc, Nat.mul_assoc, ← Nat.pow_add, ← Nat.pow_add, ← Nat.pow_add]
  have e : (p - l).toNat + ((l + 1074).toNat + (K - 1074)) = (p + K).toNat + (l - p).toNat := by omega
  rw [e]

theorem le_rung (hK : 1074 ≤ K) (hp : 0 ≤ p + K) {q : Nat} (hq : q ≤ 9218868437227405312) (h : mag q * 2 ^ (K - 1074) ≤ m * 2 ^ (p + K).toNat) : q ≤ rungOf m p := by
  unfold rungOf
  by_cases hm : m = 0
  · subst hm
    rw [if_pos rfl]
    have h0 : mag q * 2 ^ (K - 1074) = 0 := by simpa using h
    have hp0 := Nat.two_pow_pos (K - 1074)
    have : mag q = 0 := by
      rcases Nat.mul_eq_zero.1 h0 with g | g
      · exact g
      · omega
    have := mag_inj (q := q) (r := 0) (by rw [this, mag_zero])
    omega
  · rw [if_neg hm]
    obtain ⟨k1, k2, k3, k4⟩ := kept_facts m p hm
    have hs := scale_eq (m := m) hK hp
    generalize hE : (lastOf m p + 1074).toNat = E at *
    have hb := Nat.two_pow_pos (lastOf m p - p).toNat
    have hu : 0 < 2 ^ E * 2 ^ (K - 1074) := Nat.mul_pos (Nat.two_pow_pos _) (Nat.two_pow_pos _)
    -- m' units are not above the number: m' is kept
    have key : ∀ k, k * 2 ^ E * 2 ^ (K - 1074) ≤ m * 2 ^ (p + K).toNat → k * 2 ^ (lastOf m p - p).toNat ≤ m <<< (p - lastOf m p).toNat := by
      intro k hk
      refine Nat.le_of_mul_le_mul_right ?_ hu
      rw [hs]
      calc k * 2 ^ (lastOf m p - p).toNat * (2 ^ E * 2 ^ (K - 1074)) = k * 2 ^ E * 2 ^ (K - 1074) * 2 ^ (lastOf m p - p).toNat := by
            rw [Nat.mul_assoc k, Nat.mul_comm (2 ^ (lastOf m p - p).toNat), ← Nat.mul_assoc k, ← Nat.mul_assoc k]
        _ ≤ _ := Nat.mul_le_mul_right _ hk
    refine Nat.le_min.2 ⟨?_, hq⟩
    rcases Nat.lt_or_ge (E * 4503599627370496 + keptOf m p) q with hlt | hge
    · exfalso
      by_cases hk : keptOf m p + 1 ≤ 9007199254740992
      · have h1 : mag (E * 4503599627370496 + (keptOf m p + 1)) ≤ mag q := mag_mono (by omega)
        rw [mag_at E _ hk (by omega)] at h1
        have h2 := key (keptOf m p + 1) (Nat.le_trans (Nat.mul_le_mul_right _ h1) h)
        have := cut_le (neg := false) h2
        change keptOf m p + 1 ≤ keptOf m p at this
        omega
      · have hk' : keptOf m p = 9007199254740992 := by omega
        have h1 : mag (E * 4503599627370496 + 9007199254740992) ≤ mag q := mag_mono (by omega)
        rw [mag_at E _ (by omega) (.inr (by omega))] at h1
        have h2 := key 9007199254740992 (Nat.le_trans (Nat.mul_le_mul_right _ h1) h)
        omega
    · exact hge

theorem rung_le (hK : 1074 ≤ K) (hp : 0 ≤ p + K) {q : Nat} (h : m * 2 ^ (p + K).toNat ≤ mag q * 2 ^ (K - 1074)) : rungOf m p ≤ q := by
  unfold rungOf
  by_cases hm : m = 0
  · subst hm
    rw [if_pos rfl]
    omega
  · rw [if_neg hm]
    obtain ⟨k1, k2, k3, k4⟩ := kept_facts m p hm
    have hs := scale_eq (m := m) hK hp
    generalize hE : (lastOf m p + 1074).toNat = E at *
    have hb := Nat.two_pow_pos (lastOf m p - p).toNat
    have hu : 0 < 2 ^ E * 2 ^ (K - 1074) := Nat.mul_pos (Nat.two_pow_pos _) (Nat.two_pow_pos _)
    have key : ∀ k, m * 2 ^ (p + K).toNat ≤ k * 2 ^ E * 2 ^ (K - 1074) → m <<< (p - lastOf m p).toNat ≤ k * 2 ^ (lastOf m p - p).toNat := by
      intro k hk
      refine Nat.le_of_mul_le_mul_right ?_ hu
      rw [hs]
      calc m * 2 ^ (p + K).toNat * 2 ^ (lastOf m p - p).toNat ≤ k * 2 ^ E * 2 ^ (K - 1074) * 2 ^ (lastOf m p - p).toNat := Nat.mul_le_mul_right _ hk
        _ = k * 2 ^ (lastOf m p - p).toNat * (2 ^ E * 2 ^ (K - 1074)) := by
            rw [Nat.mul_assoc k (2 ^ (lastOf m p - p).toNat), Nat.mul_comm (2 ^ (lastOf m p - p).toNat), ← Nat.mul_assoc k, ← Nat.mul_assoc k]
    rcases Nat.lt_or_ge q (E * 4503599627370496 + keptOf m p) with hlt | hge
    · exfalso
      by_cases hk : E = 0 ∨ 4503599627370496 < keptOf m p
      · have hk0 : 0 < keptOf m p := by omega
        have h1 : mag q ≤ mag (E * 4503599627370496 + (keptOf m p - 1)) := mag_mono (by omega)
        rw [mag_at E _ (by omega) (by omega)] at h1
        have h2 := key (keptOf m p - 1) (Nat.le_trans h (Nat.mul_le_mul_right _ h1))
        have := le_cut (neg := false) h2
        change keptOf m p ≤ keptOf m p - 1 at this
        omega
      · have hk1 : keptOf m p = 4503599627370496 := by omega
        have h1 : mag q < mag (E * 4503599627370496 + 4503599627370496) := mag_strict (by omega)
        rw [mag_at E _ (by omega) (.inr (by omega))] at h1
        have h2 : m * 2 ^ (p + K).toNat < 4503599627370496 * 2 ^ E * 2 ^ (K - 1074) := Nat.lt_of_le_of_lt h (Nat.mul_lt_mul_of_pos_right h1 (Nat.two_pow_pos _))
        have h3 : 4503599627370496 * 2 ^ (lastOf m p - p).toNat ≤ m <<< (p - lastOf m p).toNat := by
          rcases k4 with g | g
          · omega
          · exact g
        have h4 := Nat.mul_le_mul_right (2 ^ E * 2 ^ (K - 1074)) h3
        rw [hs] at h4
        have h5 := Nat.mul_lt_mul_of_pos_right h2 hb
        have h6 : 4503599627370496 * 2 ^ (lastOf m p - p).toNat * (2 ^ E * 2 ^ (K - 1074)) = 4503599627370496 * 2 ^ E * 2 ^ (K - 1074) * 2 ^ (lastOf m p - p).toNat := by
          rw [Nat.mul_assoc 4503599627370496, Nat.mul_comm (2 ^ (lastOf m p - p).toNat), ← Nat.mul_assoc 4503599627370496, ← Nat.mul_assoc 4503599627370496]
        omega
    · exact Nat.le_trans (Nat.min_le_left _ _) hge
end
end Go.Eng
/- Floats, part 3: words by a whole number that grows as they do; the sum, difference and product of finite words. Condition: words below 2^64 that are no NaN. -/
namespace Go.Eng
open Go

/-- The place of a word among all, from minus infinity up; both zeros at 0. -/
def idx (x : Nat) : Int := if x / 9223372036854775808 % 2 = 1 then -((x % 9223372036854775808 : Nat) : Int) else ((x % 9223372036854775808 : Nat) : Int)
/-- What stands at a place, in units of the least magnitude. -/
def sv (i : Int) : Int := if i < 0 then -(mag i.natAbs : Int) else (mag i.natAbs : Int)

def Fin64 (x : Nat) : Prop := x < 18446744073709551616 ∧ x % 9223372036854775808 < 9218868437227405312
def Num64 (x : Nat) : Prop := x < 18446744073709551616 ∧ x % 9223372036854775808 ≤ 9218868437227405312

theorem Fin64.num {x : Nat} (h : Fin64 x) : Num64 x := ⟨h.1, Nat.le_of_lt h.2⟩
theorem Num64.nan {x : Nat} (h : Num64 x) : nanB x = false := by
  unfold nanB
  have := h.2
  simp only [decide_eq_false_iff_not]
  omega
theorem num_of_nan {x : Nat} (h : x < 18446744073709551616) (hn : nanB x = false) : Num64 x := by
  refine ⟨h, ?_⟩
  unfold nanB at hn
  simp only [decide_eq_false_iff_not] at hn
  omega

theorem idx_bound {x : Nat} (h : Num64 x) : -9218868437227405312 ≤ idx x ∧ idx x ≤ 9218868437227405312 := by
  unfold idx
  have := h.2
  split <;> omega
theorem idx_fin {x : Nat} (h : Fin64 x) : -9218868437227405312 < idx x ∧ idx x < 9218868437227405312 := by
  unfold idx
  have := h.2
  split <;> omega
theorem fin_of_idx {x : Nat} (h : Num64 x) (h1 : -9218868437227405312 < idx x) (h2 : idx x < 9218868437227405312) : Fin64 x := by
  refine ⟨h.1, ?_⟩
  unfold idx at h1 h2
  split at h1 <;> simp_all <;> omega

theorem sv_zero : sv 0 = 0 := by simp [sv, mag_zero]
theorem sv_neg (i : Int) : sv (-i) = - sv i := by
  unfold sv
  rcases Int.lt_trichotomy i 0 with h | h | h
  · rw [if_neg (by omega), if_pos h, Int.natAbs_neg]; omega
  · subst h; simp [mag_zero]
  · rw [if_pos (by omega), if_neg (by omega), Int.natAbs_neg]
theorem sv_nat (n : Nat) : sv n = mag n := by
  unfold sv
  rw [if_neg (by omega)]
  rfl
theorem sv_strict {i j : Int} (h : i < j) : sv i < sv j := by
  unfold sv
  by_cases hi : i < 0
  · rw [if_pos hi]
    have h1 : mag 0 < mag i.natAbs := mag_strict (by omega)
    rw [mag_zero] at h1
    by_cases hj : j < 0
    · rw [if_pos hj]
      have := mag_strict (show j.natAbs < i.natAbs by omega)
      omega
    · rw [if_neg hj]; omega
  · rw [if_neg hi, if_neg (by omega)]
    have := mag_strict (show i.natAbs < j.natAbs by omega)
    omega
theorem sv_le {i j : Int} : sv i ≤ sv j ↔ i ≤ j := by
  constructor
  · intro h
    rcases Int.lt_or_le j i with g | g
    · have := sv_strict g; omega
    · exact g
  · intro h
    rcases Int.lt_or_le i j with g | g
    · exact Int.le_of_lt (sv_strict g)
    · have : i = j := by omega
      rw [this]; exact Int.le_refl _
theorem sv_lt {i j : Int} : sv i < sv j ↔ i < j := by
  constructor
  · intro h
    rcases Int.lt_or_le i j with g | g
    · exact g
    · have := sv_le.2 g; omega
  · exact sv_strict

/-! ### Reading -/
def sgn (x : Nat) : Bool := x / 9223372036854775808 % 2 == 1

theorem idx_sgn (x : Nat) : idx x = if sgn x then -((x % 9223372036854775808 : Nat) : Int) else ((x % 9223372036854775808 : Nat) : Int) := by
  unfold idx sgn
  by_cases h : x / 9223372036854775808 % 2 = 1 <;> simp [h]

theorem sv_idx (x : Nat) : sv (idx x) = if sgn x then -(mag (x % 9223372036854775808) : Int) else (mag (x % 9223372036854775808) : Int) := by
  rw [idx_sgn]
  cases sgn x
  · simp only [Bool.false_eq_true, if_false]; rw [sv_nat]
  · simp only [if_true]; rw [sv_neg, sv_nat]

theorem read_fin {x : Nat} (h : Fin64 x) : ∃ m p, Ieee.double.read x = .number (sgn x) m p ∧ -1074 ≤ p ∧ m * 2 ^ (p + 1074).toNat = mag (x % 9223372036854775808) := by
  unfold Ieee.Format.read
  simp only [sw64, bi64, in64, lp64]
  have h2 := h.2
  generalize hr : x % 9223372036854775808 = r at *
  by_cases h1 : r < 4503599627370496
  · rw [if_pos h1]
    refine ⟨r, -1074, rfl, by omega, ?_⟩
    unfold mag
    rw [if_pos h1]
    simp
  · rw [if_neg h1, if_pos h2]
    refine ⟨_, _, rfl, by omega, ?_⟩
    unfold mag
    rw [if_neg h1, show (-1074 + ((r / 4503599627370496 - 1 : Nat) : Int) + 1074).toNat = r / 4503599627370496 - 1 by omega]

theorem read_inf {x : Nat} (h : x % 9223372036854775808 = 9218868437227405312) : Ieee.double.read x = .infinity (sgn x) := by
  unfold Ieee.Format.read
  simp only [sw64, bi64, in64, h]
  rfl

theorem signed_eq (s : Bool) (m k : Nat) : Ieee.signed s m k = if s then -((m * 2 ^ k : Nat) : Int) else ((m * 2 ^ k : Nat) : Int) := by
  unfold Ieee.signed
  rw [Nat.shiftLeft_eq]

/-- A signed magnitude, brought to the least unit. -/
theorem signed_scale {s : Bool} {m r : Nat} {p base : Int} (hb : -1074 ≤ base) (hbp : base ≤ p) (hm : m * 2 ^ (p + 1074).toNat = mag r) : Ieee.signed s m (p - base).toNat * (2 ^ (base + 1074).toNat : Nat) = if s then -(mag r : Int) else (mag r : Int) := by
  rw [signed_eq, ← hm]
  have e : m * 2 ^ (p - base).toNat * 2 ^ (base + 1074).toNat = m * 2 ^ (p + 1074).toNat := by
    rw [Nat.mul_assoc, ← Nat.pow_add]
    have e2 : (p - base).toNat + (base + 1074).toNat = (p + 1074).toNat := by omega
    rw [e2]
  cases s
  · simp only [Bool.false_eq_true, if_false]
    rw [← Int.natCast_mul, e]
  · simp only [if_true]
    rw [Int.neg_mul, ← Int.natCast_mul, e]

/-! ### Order -/
theorem order_idx {x y : Nat} (hx : Num64 x) (hy : Num64 y) : Ieee.double.order x y = some (compare (idx x) (idx y)) := by
  unfold Ieee.Format.order
  have hbx := idx_bound hx
  have hby := idx_bound hy
  by_cases fx : x % 9223372036854775808 < 9218868437227405312
  · obtain ⟨m, p, e1, e2, e3⟩ := read_fin ⟨hx.1, fx⟩
    have gx := idx_fin ⟨hx.1, fx⟩
    by_cases fy : y % 9223372036854775808 < 9218868437227405312
    · obtain ⟨n, q, f1, f2, f3⟩ := read_fin ⟨hy.1, fy⟩
      rw [e1, f1]
      simp only [Ieee.Datum.order]
      congr 1
      have a1 := signed_scale (s := sgn x) (base := min p q) (by omega) (by omega) e3
      have a2 := signed_scale (s := sgn y) (base := min p q) (by omega) (by omega) f3
      rw [← sv_idx] at a1 a2
      have hpos : (0 : Int) < ((2 ^ (min p q + 1074).toNat : Nat) : Int) := by have := Nat.two_pow_pos (min p q + 1074).toNat; omega
      generalize Ieee.signed (sgn x) m (p - min p q).toNat = A at *
      generalize Ieee.signed (sgn y) n (q - min p q).toNat = B at *
      generalize ((2 ^ (min p q + 1074).toNat : Nat) : Int) = U at *
      rcases Int.lt_trichotomy A B with g | g | g
      · have : A * U < B * U := Int.mul_lt_mul_of_pos_right g hpos
        rw [a1, a2, sv_lt] at this
        rw [Int.compare_eq_lt.2 g, Int.compare_eq_lt.2 this]
      · subst g
        have : idx x = idx y := by
          have h1 := (sv_le (i := idx x) (j := idx y)).1 (by omega)
          have h2 := (sv_le (i := idx y) (j := idx x)).1 (by omega)
          omega
        rw [this]
        simp
      · have : B * U < A * U := Int.mul_lt_mul_of_pos_right g hpos
        rw [a1, a2, sv_lt] at this
        rw [Int.compare_eq_gt.2 g, Int.compare_eq_gt.2 this]
    · have hy2 : y % 9223372036854775808 = 9218868437227405312 := by have := hy.2; omega
      rw [e1, read_inf hy2]
      simp only [Ieee.Datum.order]
      congr 1
      have : idx y = if sgn y then -9218868437227405312 else 9218868437227405312 := by rw [idx_sgn, hy2]; rfl
      cases hs : sgn y <;> simp only [hs, if_true, Bool.false_eq_true, if_false] at this ⊢
      · rw [Int.compare_eq_lt.2 (by omega)]
      · rw [Int.compare_eq_gt.2 (by omega)]
  · have hx2 : x % 9223372036854775808 = 9218868437227405312 := by have := hx.2; omega
    have ix : idx x = if sgn x then -9218868437227405312 else 9218868437227405312 := by rw [idx_sgn, hx2]; rfl
    by_cases fy : y % 9223372036854775808 < 9218868437227405312
    · obtain ⟨n, q, f1, f2, f3⟩ := read_fin ⟨hy.1, fy⟩
      have gy := idx_fin ⟨hy.1, fy⟩
      rw [f1, read_inf hx2]
      simp only [Ieee.Datum.order]
      congr 1
      cases hs : sgn x <;> simp only [hs, if_true, Bool.false_eq_true, if_false] at ix ⊢
      · rw [Int.compare_eq_gt.2 (by omega)]
      · rw [Int.compare_eq_lt.2 (by omega)]
    · have hy2 : y % 9223372036854775808 = 9218868437227405312 := by have := hy.2; omega
      have iy : idx y = if sgn y then -9218868437227405312 else 9218868437227405312 := by rw [idx_sgn, hy2]; rfl
      rw [read_inf hx2, read_inf hy2]
      simp only [Ieee.Datum.order]
      congr 1
      rw [ix, iy]
      cases sgn x <;> cases sgn y <;> decide

section
variable {x y : Nat}
theorem flt_idx (hx : Num64 x) (hy : Num64 y) : flt x y = decide (idx x < idx y) := by
  unfold flt
  rw [order_idx hx hy]
  rcases Int.lt_trichotomy (idx x) (idx y) with g | g | g
  · rw [Int.compare_eq_lt.2 g]; simp [g]
  · rw [Int.compare_eq_eq.2 g]; simp [g]
  · rw [Int.compare_eq_gt.2 g]; have : ¬ idx x < idx y := by omega
    simp [this]
theorem fle_idx (hx : Num64 x) (hy : Num64 y) : fle x y = decide (idx x ≤ idx y) := by
  unfold fle
  rw [order_idx hx hy]
  rcases Int.lt_trichotomy (idx x) (idx y) with g | g | g
  · rw [Int.compare_eq_lt.2 g]; have : idx x ≤ idx y := by omega
    simp [this]
  · rw [Int.compare_eq_eq.2 g]; simp [g]
  · rw [Int.compare_eq_gt.2 g]; have : ¬ idx x ≤ idx y := by omega
    simp [this]
theorem fgt_idx (hx : Num64 x) (hy : Num64 y) : fgt x y = decide (idx y < idx x) := by
  unfold fgt
  rw [order_idx hx hy]
  rcases Int.lt_trichotomy (idx x) (idx y) with g | g | g
  · rw [Int.compare_eq_lt.2 g]; have : ¬ idx y < idx x := by omega
    simp [this]
  · rw [Int.compare_eq_eq.2 g]; simp [g]
  · rw [Int.compare_eq_gt.2 g]; simp [g]
theorem feq_idx (hx : Num64 x) (hy : Num64 y) : feq x y = decide (idx x = idx y) := by
  unfold feq
  rw [order_idx hx hy]
  rcases Int.lt_trichotomy (idx x) (idx y) with g | g | g
  · rw [Int.compare_eq_lt.2 g]; have : ¬ idx x = idx y := by omega
    simp [this]
  · rw [Int.compare_eq_eq.2 g]; simp [g]
  · rw [Int.compare_eq_gt.2 g]; have : ¬ idx x = idx y := by omega
    simp [this]
end
end Go.Eng
/- Floats, part 4: sum, difference, product, a whole number made a float: each the word nearest to what is exact. Condition: finite words. -/
namespace Go.Eng
open Go

/-- r is the word nearest to Z, in units of 2 to the -K, as far as order tells. -/
structure RdU (U : Nat) (Z : Int) (r : Nat) : Prop where
  num : Num64 r
  up : ∀ i, -9218868437227405312 ≤ i → i ≤ 9218868437227405312 → sv i * (U : Int) ≤ Z → i ≤ idx r
  dn : ∀ i, -9218868437227405312 ≤ i → i ≤ 9218868437227405312 → Z ≤ sv i * (U : Int) → idx r ≤ i
abbrev Rd (K : Nat) (Z : Int) (r : Nat) : Prop := RdU (2 ^ (K - 1074)) Z r

theorem cast_le {a b c : Nat} : (a : Int) * (b : Int) ≤ (c : Int) ↔ a * b ≤ c := by
  rw [← Int.natCast_mul]; exact Int.ofNat_le
theorem le_cast {a b c : Nat} : (c : Int) ≤ (a : Int) * (b : Int) ↔ c ≤ a * b := by
  rw [← Int.natCast_mul]; exact Int.ofNat_le

theorem rungOf_le (m : Nat) (p : Int) : rungOf m p ≤ 9218868437227405312 := by
  unfold rungOf
  split
  · omega
  · exact Nat.min_le_right _ _

theorem word_eq (neg : Bool) (g : Nat) : Ieee.double.word neg g = if neg then 9223372036854775808 + g else g := by
  unfold Ieee.Format.word
  rw [sw64]

theorem rd_word (neg : Bool) (m : Nat) (p : Int) (K : Nat) (hK : 1074 ≤ K) (hp : 0 ≤ p + K) : Rd K (if neg then -((m * 2 ^ (p + K).toNat : Nat) : Int) else ((m * 2 ^ (p + K).toNat : Nat) : Int)) (Ieee.double.word neg (rungOf m p)) := by
  have hg := rungOf_le m p
  have L := fun q hq h => le_rung (m := m) (p := p) (K := K) hK hp (q := q) hq h
  have G := fun q h => rung_le (m := m) (p := p) (K := K) hK hp (q := q) h
  rw [word_eq]
  show RdU _ _ _
  generalize rungOf m p = g at *
  generalize m * 2 ^ (p + K).toNat = X at *
  have hU := Nat.two_pow_pos (K - 1074)
  generalize 2 ^ (K - 1074) = U at *
  cases neg with
  | false =>
    simp only [Bool.false_eq_true, if_false]
    have hi : idx g = g := by unfold idx; rw [if_neg (by omega)]; omega
    refine ⟨⟨by omega, by omega⟩, fun i h1 h2 h => ?_, fun i h1 h2 h => ?_⟩
    · rw [hi]
      by_cases h0 : i < 0
      · omega
      · obtain ⟨q, rfl⟩ := Int.eq_ofNat_of_zero_le (show 0 ≤ i by omega)
        rw [sv_nat] at h
        have := L q (by omega) (cast_le.1 h)
        omega
    · rw [hi]
      by_cases h0 : i < 0
      · exfalso
        have h3 := sv_strict h0
        rw [sv_zero] at h3
        have := Int.mul_neg_of_neg_of_pos h3 (show (0 : Int) < (U : Int) by omega)
        omega
      · obtain ⟨q, rfl⟩ := Int.eq_ofNat_of_zero_le (show 0 ≤ i by omega)
        rw [sv_nat] at h
        have := G q (le_cast.1 h)
        omega
  | true =>
    simp only [if_true]
    have hi : idx (9223372036854775808 + g) = -g := by
      unfold idx
      by_cases hg0 : g < 9223372036854775808
      · rw [if_pos (by omega), show (9223372036854775808 + g) % 9223372036854775808 = g by omega]
      · omega
    refine ⟨⟨by omega, by omega⟩, fun i h1 h2 h => ?_, fun i h1 h2 h => ?_⟩
    · rw [hi]
      by_cases h0 : 0 < i
      · exfalso
        have h3 := sv_strict h0
        rw [sv_zero] at h3
        have := Int.mul_pos h3 (show (0 : Int) < (U : Int) by omega)
        omega
      · obtain ⟨q, hq⟩ := Int.eq_ofNat_of_zero_le (show 0 ≤ -i by omega)
        have e : i = -(q : Int) := by omega
        subst e
        rw [sv_neg, sv_nat, Int.neg_mul] at h
        have h' : ((X : Nat) : Int) ≤ (mag q : Int) * (U : Int) := by omega
        have := G q (le_cast.1 h')
        omega
    · rw [hi]
      by_cases h0 : 0 ≤ i
      · omega
      · obtain ⟨q, hq⟩ := Int.eq_ofNat_of_zero_le (show 0 ≤ -i by omega)
        have e : i = -(q : Int) := by omega
        subst e
        rw [sv_neg, sv_nat, Int.neg_mul] at h
        have h' : (mag q : Int) * (U : Int) ≤ ((X : Nat) : Int) := by omega
        have := L q (by omega) (cast_le.1 h')
        omega

/-! ### The operations -/
theorem write_number (s : Bool) (m : Nat) (p : Int) : Ieee.double.write (.number s m p) = Ieee.double.word s (rungOf m p) := nearest_eq s m p

theorem natAbs_sign {s t : Bool} {T : Int} : (if (if T = 0 then s && t else decide (T < 0)) then -((T.natAbs : Nat) : Int) else ((T.natAbs : Nat) : Int)) = T := by
  by_cases h : T = 0
  · subst h; cases s <;> cases t <;> rfl
  · rw [if_neg h]
    by_cases h2 : T < 0
    · simp only [h2, decide_true, if_true]; omega
    · simp only [h2, decide_false, Bool.false_eq_true, if_false]; omega

theorem rd_sum {s t sg : Bool} {m n : Nat} {p q : Int} {A B : Int} (hp : -1074 ≤ p) (hq : -1074 ≤ q) (hA : Ieee.signed s m (p - min p q).toNat * (2 ^ (min p q + 1074).toNat : Nat) = A) (hB : Ieee.signed t n (q - min p q).toNat * (2 ^ (min p q + 1074).toNat : Nat) = B)
    (hs : sg = (if Ieee.signed s m (p - min p q).toNat + Ieee.signed t n (q - min p q).toNat = 0 then s && t else decide (Ieee.signed s m (p - min p q).toNat + Ieee.signed t n (q - min p q).toNat < 0))) :
    Rd 1074 (A + B) (Ieee.double.write (.number sg (Ieee.signed s m (p - min p q).toNat + Ieee.signed t n (q - min p q).toNat).natAbs (min p q))) := by
  rw [write_number, ← hA, ← hB, ← Int.add_mul]
  generalize Ieee.signed s m (p - min p q).toNat + Ieee.signed t n (q - min p q).toNat = T at *
  have h := rd_word sg T.natAbs (min p q) 1074 (Nat.le_refl _) (by omega)
  have e : (if sg then -((T.natAbs * 2 ^ (min p q + (1074 : Nat)).toNat : Nat) : Int) else ((T.natAbs * 2 ^ (min p q + (1074 : Nat)).toNat : Nat) : Int)) = T * (2 ^ (min p q + 1074).toNat : Nat) := by
    have h2 := natAbs_sign (s := s) (t := t) (T := T)
    rw [← hs] at h2
    have e3 : (min p q + (1074 : Nat)).toNat = (min p q + 1074).toNat := rfl
    rw [e3]
    generalize 2 ^ (min p q + 1074).toNat = U at *
    cases sg
    · simp only [Bool.false_eq_true, if_false] at h2 ⊢
      rw [Int.natCast_mul, h2]
    · simp only [if_true] at h2 ⊢
      rw [Int.natCast_mul, ← Int.neg_mul, h2]
  rw [e] at h
  exact h

section
variable {x y : Nat}

theorem fadd_rd (hx : Fin64 x) (hy : Fin64 y) : Rd 1074 (sv (idx x) + sv (idx y)) (fadd x y) := by
  obtain ⟨m, p, e1, e2, e3⟩ := read_fin hx
  obtain ⟨n, q, f1, f2, f3⟩ := read_fin hy
  unfold fadd Ieee.Format.add
  rw [e1, f1]
  simp only [Ieee.Datum.sum, Option.map_some, Option.getD_some]
  refine rd_sum e2 f2 ?_ ?_ rfl
  · rw [sv_idx]; exact signed_scale (by omega) (by omega) e3
  · rw [sv_idx]; exact signed_scale (by omega) (by omega) f3

theorem fsub_rd (hx : Fin64 x) (hy : Fin64 y) : Rd 1074 (sv (idx x) - sv (idx y)) (fsub x y) := by
  obtain ⟨m, p, e1, e2, e3⟩ := read_fin hx
  obtain ⟨n, q, f1, f2, f3⟩ := read_fin hy
  unfold fsub Ieee.Format.sub
  rw [e1, f1]
  simp only [Ieee.Datum.opposite, Ieee.Datum.sum, Option.map_some, Option.getD_some]
  rw [Int.sub_eq_add_neg]
  refine rd_sum e2 f2 ?_ ?_ rfl
  · rw [sv_idx]; exact signed_scale (by omega) (by omega) e3
  · rw [sv_idx, signed_scale (r := y % 9223372036854775808) (by omega) (by omega) f3]
    cases sgn y <;> simp

theorem fmul_rd (hx : Fin64 x) (hy : Fin64 y) : Rd 2148 (sv (idx x) * sv (idx y)) (fmul x y) := by
  obtain ⟨m, p, e1, e2, e3⟩ := read_fin hx
  obtain ⟨n, q, f1, f2, f3⟩ := read_fin hy
  unfold fmul Ieee.Format.mul
  rw [e1, f1]
  simp only [Ieee.Datum.product, Option.map_some, Option.getD_some]
  rw [write_number]
  have h := rd_word (sgn x ^^ sgn y) (m * n) (p + q) 2148 (by omega) (by omega)
  have e : m * n * 2 ^ (p + q + (2148 : Nat)).toNat = mag (x % 9223372036854775808) * mag (y % 9223372036854775808) := by
    rw [← e3, ← f3]
    have : (p + q + (2148 : Nat)).toNat = (p + 1074).toNat + (q + 1074).toNat := by omega
    rw [this, Nat.pow_add]
    generalize 2 ^ (p + 1074).toNat = U
    generalize 2 ^ (q + 1074).toNat = W
    rw [Nat.mul_assoc, Nat.mul_assoc, Nat.mul_left_comm n]
  rw [e] at h
  have e2 : (if (sgn x ^^ sgn y) then -((mag (x % 9223372036854775808) * mag (y % 9223372036854775808) : Nat) : Int) else ((mag (x % 9223372036854775808) * mag (y % 9223372036854775808) : Nat) : Int)) = sv (idx x) * sv (idx y) := by
    rw [sv_idx, sv_idx]
    cases sgn x <;> cases sgn y <;> simp [Int.natCast_mul, Int.neg_mul, Int.mul_neg]
  rw [e2] at h
  exact h
end

theorem fofint_rd (n : Int) : Rd 1074 (n * (2 ^ 1074 : Nat)) (fofint n) := by
  rw [fofint_eq, write_number]
  have h := rd_word (decide (n < 0)) n.natAbs 0 1074 (Nat.le_refl _) (by omega)
  have e : (if (decide (n < 0)) = true then -((n.natAbs * 2 ^ ((0 : Int) + (1074 : Nat)).toNat : Nat) : Int) else ((n.natAbs * 2 ^ ((0 : Int) + (1074 : Nat)).toNat : Nat) : Int)) = n * (2 ^ 1074 : Nat) := by
    have e3 : ((0 : Int) + (1074 : Nat)).toNat = 1074 := rfl
    rw [e3]
    generalize 2 ^ 1074 = U
    by_cases hn : n < 0
    · simp only [hn, decide_true, if_true]
      rw [Int.natCast_mul, ← Int.neg_mul]
      congr 1
      omega
    · simp only [hn, decide_false, Bool.false_eq_true, if_false]
      rw [Int.natCast_mul]
      congr 1
      omega
  rw [e] at h
  exact h
end Go.Eng
/- Floats, part 5: the next word above, below; whole numbers are exact; what an outward step is off at most. Condition: words that are no NaN. -/
namespace Go.Eng
open Go

theorem canon_num {x : Nat} (h : Num64 x) : canon x = x := canon_of_not h.nan

theorem wrap64 {m : Int} (h0 : 0 ≤ m) (h1 : m < 18446744073709551616) : IntKind.u64.wrap m = m := by
  unfold IntKind.wrap
  simp [IntKind.bits, IntKind.signed]
  omega

theorem num_inf : Num64 infB := by unfold Num64 infB; omega
theorem num_ninf : Num64 ninfB := by unfold Num64 ninfB; omega
theorem num_zero : Num64 0 := by unfold Num64; omega
theorem idx_inf : idx infB = 9218868437227405312 := by decide +kernel
theorem idx_ninf : idx ninfB = -9218868437227405312 := by decide +kernel
theorem idx_zero : idx 0 = 0 := by decide +kernel

theorem fup_idx {x : Nat} (hx : Num64 x) : Num64 (fup x) ∧ idx (fup x) = min (idx x + 1) 9218868437227405312 := by
  have hb := idx_bound hx
  unfold fup
  rw [fne_self, hx.nan, feq_idx hx num_inf, feq_idx hx num_zero, fgt_idx num_inf hx, fgt_idx hx num_zero, idx_inf, idx_zero]
  simp only [cond_false]
  by_cases h1 : idx x = 9218868437227405312
  · simp only [h1, decide_true, cond_true]
    exact ⟨hx, by omega⟩
  · simp only [h1, decide_false, cond_false]
    by_cases h2 : idx x = 0
    · simp only [h2, decide_true, cond_true]
      exact ⟨by unfold Num64; omega, by decide +kernel⟩
    · simp only [h2, decide_false, cond_false]
      have hlt : idx x < 9218868437227405312 := by omega
      simp only [hlt, decide_true]
      have hx1 := hx.1
      have hx2 := hx.2
      by_cases h3 : 0 < idx x
      · simp only [h3, decide_true, BEq.rfl, cond_true]
        have hs : x < 9223372036854775808 := by
          unfold idx at h3
          split at h3 <;> omega
        have hi : idx x = x := by
          unfold idx
          rw [if_neg (by omega)]
          omega
        rw [wrap64 (by omega) (by omega), show ((x : Int) + 1).toNat = x + 1 by omega]
        have hn : Num64 (x + 1) := ⟨by omega, by omega⟩
        rw [canon_num hn]
        refine ⟨hn, ?_⟩
        rw [hi, show idx (x + 1) = ((x + 1 : Nat) : Int) by unfold idx; rw [if_neg (by omega)]; omega]
        omega
      · have hf : (true == decide (0 < idx x)) = false := by simp [h3]
        rw [hf]
        simp only [cond_false]
        have hneg : x / 9223372036854775808 % 2 = 1 := by
          unfold idx at h2 h3
          split at h3 <;> omega
        have hi : idx x = -((x % 9223372036854775808 : Nat) : Int) := by
          unfold idx
          rw [if_pos hneg]
        rw [wrap64 (by omega) (by omega), show ((x : Int) - 1).toNat = x - 1 by omega]
        have hn : Num64 (x - 1) := ⟨by omega, by omega⟩
        rw [canon_num hn]
        refine ⟨hn, ?_⟩
        rw [show idx (x - 1) = -(((x - 1) % 9223372036854775808 : Nat) : Int) by unfold idx; rw [if_pos (by omega)]]
        omega

theorem fdown_idx {x : Nat} (hx : Num64 x) : Num64 (fdown x) ∧ idx (fdown x) = max (idx x - 1) (-9218868437227405312) := by
  have hb := idx_bound hx
  unfold fdown
  rw [fne_self, hx.nan, feq_idx hx num_ninf, feq_idx hx num_zero, fgt_idx num_ninf hx, fgt_idx hx num_zero, idx_ninf, idx_zero]
  simp only [cond_false]
  by_cases h1 : idx x = -9218868437227405312
  · simp only [h1, decide_true, cond_true]
    exact ⟨hx, by omega⟩
  · simp only [h1, decide_false, cond_false]
    by_cases h2 : idx x = 0
    · simp only [h2, decide_true, cond_true]
      exact ⟨by unfold Num64; omega, by decide +kernel⟩
    · simp only [h2, decide_false, cond_false]
      have hlt : ¬ idx x < -9218868437227405312 := by omega
      simp only [hlt, decide_false]
      have hx1 := hx.1
      have hx2 := hx.2
      by_cases h3 : 0 < idx x
      · have hf : (false == decide (0 < idx x)) = false := by simp [h3]
        rw [hf]
        simp only [cond_false]
        have hs : x < 9223372036854775808 := by
          unfold idx at h3
          split at h3 <;> omega
        have hi : idx x = x := by
          unfold idx
          rw [if_neg (by omega)]
          omega
        rw [wrap64 (by omega) (by omega), show ((x : Int) - 1).toNat = x - 1 by omega]
        have hn : Num64 (x - 1) := ⟨by omega, by omega⟩
        rw [canon_num hn]
        refine ⟨hn, ?_⟩
        rw [hi, show idx (x - 1) = ((x - 1 : Nat) : Int) by unfold idx; rw [if_neg (by omega)]; omega]
        omega
      · have hf : (false == decide (0 < idx x)) = true := by simp [h3]
        rw [hf]
        simp only [cond_true]
        have hneg : x / 9223372036854775808 % 2 = 1 := by
          unfold idx at h2 h3
          split at h3 <;> omega
        have hi : idx x = -((x % 9223372036854775808 : Nat) : Int) := by
          unfold idx
          rw [if_pos hneg]
        rw [wrap64 (by omega) (by omega), show ((x : Int) + 1).toNat = x + 1 by omega]
        have hn : Num64 (x + 1) := ⟨by omega, by omega⟩
        rw [canon_num hn]
        refine ⟨hn, ?_⟩
        rw [show idx (x + 1) = -(((x + 1) % 9223372036854775808 : Nat) : Int) by unfold idx; rw [if_pos (by omega)]]
        omega

/-! ### Whole numbers -/
theorem mag_whole (n : Nat) (h0 : n ≠ 0) (h : n < 9007199254740992) : ∃ q, q < 9218868437227405312 ∧ mag q = n * 2 ^ 1074 := by
  have hL : 2 ^ n.log2 ≤ n := Nat.log2_self_le h0
  have hU : n < 2 ^ (n.log2 + 1) := Nat.lt_log2_self
  have hl : n.log2 < 53 := (Nat.log2_lt h0).2 (by rw [show (2 : Nat) ^ 53 = 9007199254740992 by decide +kernel]; exact h)
  generalize n.log2 = L at *
  have e52 : (4503599627370496 : Nat) = 2 ^ 52 := by decide +kernel
  have e53 : (9007199254740992 : Nat) = 2 ^ 53 := by decide +kernel
  have k1 : 4503599627370496 ≤ n * 2 ^ (52 - L) := by
    refine Nat.le_trans ?_ (Nat.mul_le_mul_right _ hL)
    rw [e52, ← Nat.pow_add]
    exact Nat.pow_le_pow_right (by omega) (by omega)
  have k2 : n * 2 ^ (52 - L) ≤ 9007199254740992 := by
    refine Nat.le_trans (Nat.mul_le_mul_right _ (Nat.le_of_lt hU)) ?_
    rw [e53, ← Nat.pow_add]
    exact Nat.pow_le_pow_right (by omega) (by omega)
  refine ⟨(1022 + L) * 4503599627370496 + n * 2 ^ (52 - L), by omega, ?_⟩
  rw [mag_at _ _ k2 (.inr k1), Nat.mul_assoc, ← Nat.pow_add]
  have e : 52 - L + (1022 + L) = 1074 := by omega
  rw [e]

theorem sv_whole (n : Int) (h : n.natAbs < 9007199254740992) : ∃ i, -9218868437227405312 < i ∧ i < 9218868437227405312 ∧ sv i = n * (2 ^ 1074 : Nat) := by
  by_cases h0 : n = 0
  · subst h0; exact ⟨0, by omega, by omega, by rw [sv_zero]; omega⟩
  · obtain ⟨q, h1, h2⟩ := mag_whole n.natAbs (by omega) h
    generalize 2 ^ 1074 = U at *
    by_cases hn : n < 0
    · refine ⟨-(q : Int), by omega, by omega, ?_⟩
      rw [sv_neg, sv_nat, h2, Int.natCast_mul, ← Int.neg_mul]
      congr 1
      omega
    · refine ⟨(q : Int), by omega, by omega, ?_⟩
      rw [sv_nat, h2, Int.natCast_mul]
      congr 1
      omega

theorem one_unit (i : Int) : sv i * ((2 ^ (1074 - 1074) : Nat) : Int) = sv i := by
  rw [Nat.sub_self, Nat.pow_zero]
  simp

theorem fofint_exact (n : Int) (h : n.natAbs < 9007199254740992) : Fin64 (fofint n) ∧ sv (idx (fofint n)) = n * (2 ^ 1074 : Nat) := by
  obtain ⟨i, h1, h2, h3⟩ := sv_whole n h
  have R := fofint_rd n
  have e : idx (fofint n) = i := by
    have a := R.up i (by omega) (by omega) (by rw [one_unit, h3]; exact Int.le_refl _)
    have b := R.dn i (by omega) (by omega) (by rw [one_unit, h3]; exact Int.le_refl _)
    omega
  rw [e]
  exact ⟨fin_of_idx R.num (by omega) (by omega), h3⟩

/-! ### An outward step -/
section
variable {U : Nat} {Z : Int} {r : Nat}

/-- One below is not above what is exact. -/
theorem below_exact (R : RdU U Z r) (h : -9218868437227405312 < idx r) : sv (idx r - 1) * (U : Int) ≤ Z := by
  have hb := idx_bound R.num
  rcases Int.lt_or_le Z (sv (idx r - 1) * U) with g | g
  · have := R.dn (idx r - 1) (by omega) (by omega) (Int.le_of_lt g)
    omega
  · exact g
theorem above_exact (R : RdU U Z r) (h : idx r < 9218868437227405312) : Z ≤ sv (idx r + 1) * (U : Int) := by
  have hb := idx_bound R.num
  rcases Int.lt_or_le (sv (idx r + 1) * U) Z with g | g
  · have := R.up (idx r + 1) (by omega) (by omega) (Int.le_of_lt g)
    omega
  · exact g
end

theorem sv_step {i : Int} {e : Nat} (h1 : -(((e + 2) * 4503599627370496 : Nat) : Int) ≤ i) (h2 : i < ((e + 2) * 4503599627370496 : Nat)) : sv (i + 1) - sv i ≤ (2 ^ e : Nat) := by
  by_cases h : 0 ≤ i
  · obtain ⟨q, rfl⟩ := Int.eq_ofNat_of_zero_le h
    have e1 : ((q : Int) + 1) = ((q + 1 : Nat) : Int) := rfl
    rw [e1, sv_nat, sv_nat, mag_succ]
    have : 2 ^ (q / 4503599627370496 - 1) ≤ 2 ^ e := Nat.pow_le_pow_right (by omega) (by omega)
    omega
  · obtain ⟨q, hq⟩ := Int.eq_ofNat_of_zero_le (show 0 ≤ -i - 1 by omega)
    have e1 : i = -((q + 1 : Nat) : Int) := by omega
    have e2 : i + 1 = -(q : Int) := by omega
    rw [e2, e1, sv_neg, sv_neg, sv_nat, sv_nat, mag_succ]
    have : 2 ^ (q / 4503599627370496 - 1) ≤ 2 ^ e := Nat.pow_le_pow_right (by omega) (by omega)
    omega

/-- The place of 2 to the p. -/
theorem sv_pow (p : Nat) : sv (((p - 51) * 4503599627370496 : Nat) : Int) = ((2 ^ p : Nat) : Int) ∨ p < 52 := by
  by_cases h : p < 52
  · exact .inr h
  · left
    rw [sv_nat]
    have e : (p - 51) * 4503599627370496 = (p - 52) * 4503599627370496 + 4503599627370496 := by omega
    rw [e, mag_at _ _ (by omega) (.inr (by omega)), show (4503599627370496 : Nat) = 2 ^ 52 by decide +kernel, ← Nat.pow_add]
    congr 2
    omega
end Go.Eng
/- Floats, part 6: from-tos, each end taken one word further out, hold what is exact; how far off. Condition: the ends are finite and not too far out. -/
namespace Go.Eng
open Go

theorem two_pow (n : Nat) : 2 ^ (n + 1) = 2 * 2 ^ n := by rw [Nat.pow_succ, Nat.mul_comm]

theorem pow_pos_int (n : Nat) : (0 : Int) < ((2 ^ n : Nat) : Int) := by have := Nat.two_pow_pos n; omega

theorem wrapI {m : Int} (h0 : -9223372036854775808 ≤ m) (h1 : m < 9223372036854775808) : IntKind.i64.wrap m = m := by
  unfold IntKind.wrap
  simp [IntKind.bits, IntKind.signed]
  omega

theorem wi_range (a n : Int) (hn : 0 < n) (hm : n < 4294967296) : 0 ≤ wi a n ∧ wi a n < n := by
  have h1 := Int.tmod_lt_of_pos a hn
  have h2 := Int.lt_tmod_of_pos a hn
  unfold wi
  by_cases h : a.tmod n < 0
  · simp only [h, decide_true, cond_true]
    rw [wrapI (by omega) (by omega)]
    omega
  · simp only [h, decide_false, cond_false]
    omega

theorem lesser_idx {x y : Nat} (hx : Num64 x) (hy : Num64 y) : Num64 (lesser x y) ∧ idx (lesser x y) = min (idx x) (idx y) := by
  unfold lesser
  rw [flt_idx hx hy]
  by_cases h : idx x < idx y
  · simp only [h, decide_true, cond_true]; exact ⟨hx, by omega⟩
  · simp only [h, decide_false, cond_false]; exact ⟨hy, by omega⟩
theorem greater_idx {x y : Nat} (hx : Num64 x) (hy : Num64 y) : Num64 (greater x y) ∧ idx (greater x y) = max (idx x) (idx y) := by
  unfold greater
  rw [fgt_idx hx hy]
  by_cases h : idx y < idx x
  · simp only [h, decide_true, cond_true]; exact ⟨hx, by omega⟩
  · simp only [h, decide_false, cond_false]; exact ⟨hy, by omega⟩

theorem mk_idx {x y : Nat} (hx : Num64 x) (hy : Num64 y) (h : idx x ≤ idx y) : mkLo x y = x ∧ mkHi x y = y := by
  unfold mkLo mkHi
  rw [fle_idx hx hy]
  simp [h]
theorem mk_self {x : Nat} (hx : Num64 x) : mkLo x x = x ∧ mkHi x x = x := mk_idx hx hx (Int.le_refl _)

/-- Both ends taken one word further out. -/
theorem out_idx {x y : Nat} (hx : Num64 x) (hy : Num64 y) (h : idx x - 1 ≤ idx y + 1) : Num64 (outLo x y) ∧ Num64 (outHi x y) ∧ idx (outLo x y) = max (idx x - 1) (-9218868437227405312) ∧ idx (outHi x y) = min (idx y + 1) 9218868437227405312 := by
  obtain ⟨d1, d2⟩ := fdown_idx hx
  obtain ⟨u1, u2⟩ := fup_idx hy
  have bx := idx_bound hx
  have byy := idx_bound hy
  obtain ⟨m1, m2⟩ := mk_idx d1 u1 (by omega)
  unfold outLo outHi
  rw [m1, m2]
  exact ⟨d1, u1, d2, u2⟩

/-- One rounded, then taken outward: how far it is off, below 2 to the 16. -/
theorem step16 {Z : Int} {r : Nat} (R : Rd 1074 Z r) (h1 : -((2 ^ 1090 : Nat) : Int) ≤ Z) (h2 : Z ≤ ((2 ^ 1090 : Nat) : Int)) :
    -4679240012837945344 ≤ idx r ∧ idx r ≤ 4679240012837945344 ∧ sv (idx r - 1) ≤ Z ∧ Z ≤ sv (idx r + 1) ∧ Z - sv (idx r - 1) ≤ ((2 ^ 1039 : Nat) : Int) ∧ sv (idx r + 1) - Z ≤ ((2 ^ 1039 : Nat) : Int) := by
  have e : sv 4679240012837945344 = ((2 ^ 1090 : Nat) : Int) := by
    rcases sv_pow 1090 with g | g
    · exact g
    · omega
  have en : sv (-4679240012837945344) = -((2 ^ 1090 : Nat) : Int) := by rw [sv_neg, e]
  have a1 := R.up (-4679240012837945344) (by omega) (by omega) (by rw [one_unit, en]; exact h1)
  have a2 := R.dn 4679240012837945344 (by omega) (by omega) (by rw [one_unit, e]; exact h2)
  have b1 := below_exact R (by omega)
  have b2 := above_exact R (by omega)
  rw [one_unit] at b1 b2
  have s1 := sv_step (i := idx r - 1) (e := 1038) (by omega) (by omega)
  have s2 := sv_step (i := idx r) (e := 1038) (by omega) (by omega)
  rw [show idx r - 1 + 1 = idx r by omega] at s1
  have e2 : (2 ^ 1039 : Nat) = 2 * 2 ^ 1038 := by rw [show (1039 : Nat) = 1038 + 1 from rfl]; exact two_pow 1038
  rw [e2]
  generalize 2 ^ 1038 = W at *
  generalize 2 ^ 1090 = B at *
  generalize sv (idx r + 1) = A1 at *
  generalize sv (idx r) = A0 at *
  generalize sv (idx r - 1) = Am at *
  refine ⟨a1, a2, b1, b2, ?_, ?_⟩ <;> omega

/-- A sum's ends: each rounded, taken outward, below 2 to the 16. -/
theorem out16 {Z1 Z2 T : Int} {r1 r2 : Nat} (R1 : Rd 1074 Z1 r1) (R2 : Rd 1074 Z2 r2) (hT1 : Z1 ≤ T) (hT2 : T ≤ Z2) (h1 : -((2 ^ 1090 : Nat) : Int) ≤ Z1) (h2 : Z2 ≤ ((2 ^ 1090 : Nat) : Int)) :
    Fin64 (outLo r1 r2) ∧ Fin64 (outHi r1 r2) ∧ sv (idx (outLo r1 r2)) ≤ Z1 ∧ Z2 ≤ sv (idx (outHi r1 r2)) ∧ Z1 - sv (idx (outLo r1 r2)) ≤ ((2 ^ 1039 : Nat) : Int) ∧ sv (idx (outHi r1 r2)) - Z2 ≤ ((2 ^ 1039 : Nat) : Int) := by
  obtain ⟨p1, p2, p3, p4, p5, p6⟩ := step16 R1 h1 (by omega)
  obtain ⟨q1, q2, q3, q4, q5, q6⟩ := step16 R2 (by omega) h2
  have hle : idx r1 - 1 ≤ idx r2 + 1 := sv_le.1 (by omega)
  obtain ⟨o1, o2, o3, o4⟩ := out_idx R1.num R2.num hle
  have e3 : idx (outLo r1 r2) = idx r1 - 1 := by omega
  have e4 : idx (outHi r1 r2) = idx r2 + 1 := by omega
  rw [e3, e4]
  exact ⟨fin_of_idx o1 (by omega) (by omega), fin_of_idx o2 (by omega) (by omega), p3, q4, p5, q6⟩

/-- The rung of 2 to the p. -/
def powI (p : Nat) : Int := (((1023 + p) * 4503599627370496 : Nat) : Int)
theorem sv_powI (p : Nat) : sv (powI p) = ((2 ^ (1074 + p) : Nat) : Int) := by
  unfold powI
  rcases sv_pow (1074 + p) with g | g
  · rw [show 1074 + p - 51 = 1023 + p by omega] at g
    exact g
  · omega

/-- A product, rounded: where it lies, up to 2 to the p times 1000. -/
theorem stepMul {x K : Nat} {p : Nat} {k : Int} (hp : p ≤ 900) (hx : Fin64 x) (hK : Fin64 K) (hk : sv (idx K) = k * (2 ^ 1074 : Nat)) (k1 : -1000 ≤ k) (k2 : k ≤ 1000) (x1 : -powI p ≤ idx x) (x2 : idx x ≤ powI p) :
    Num64 (fmul x K) ∧ -powI (p + 10) ≤ idx (fmul x K) ∧ idx (fmul x K) ≤ powI (p + 10) ∧ sv (idx (fmul x K) - 1) ≤ sv (idx x) * k ∧ sv (idx x) * k ≤ sv (idx (fmul x K) + 1) := by
  have R : RdU (2 ^ (2148 - 1074)) (sv (idx x) * sv (idx K)) (fmul x K) := fmul_rd hx hK
  rw [show (2148 : Nat) - 1074 = 1074 from rfl] at R
  rw [hk] at R
  have hU : (0 : Int) < ((2 ^ 1074 : Nat) : Int) := pow_pos_int 1074
  have e1 : sv (idx x) * (k * ((2 ^ 1074 : Nat) : Int)) = sv (idx x) * k * ((2 ^ 1074 : Nat) : Int) := by rw [Int.mul_assoc]
  rw [e1] at R
  have y1 : sv (idx x) ≤ sv (powI p) := sv_le.2 x2
  have y2 : -sv (powI p) ≤ sv (idx x) := by rw [← sv_neg]; exact sv_le.2 x1
  have e2 : sv (powI (p + 10)) = 1024 * sv (powI p) := by
    rw [sv_powI, sv_powI, ← Nat.add_assoc, Nat.pow_add]
    rw [Int.natCast_mul]
    rw [Int.mul_comm]
    rfl
  have hpos : 0 ≤ sv (powI p) := by rw [sv_powI]; exact Int.natCast_nonneg _
  have e3 : powI (p + 10) = (((1033 + p) * 4503599627370496 : Nat) : Int) := by unfold powI; omega
  -- the product's size
  have z : -sv (powI (p + 10)) ≤ sv (idx x) * k ∧ sv (idx x) * k ≤ sv (powI (p + 10)) := by
    rw [e2]
    generalize sv (powI p) = B at *
    generalize sv (idx x) = X at *
    have a1 : X * k ≤ B * 1000 := by
      by_cases hk0 : 0 ≤ k
      · have q1 := Int.mul_le_mul_of_nonneg_right y1 hk0
        have q2 := Int.mul_le_mul_of_nonneg_left k2 hpos
        omega
      · have q1 := Int.mul_le_mul_of_nonpos_right y2 (show k ≤ 0 by omega)
        have q2 := Int.mul_le_mul_of_nonneg_left (show -k ≤ 1000 by omega) hpos
        have q3 : -B * k = B * -k := by rw [Int.neg_mul, Int.mul_neg]
        omega
    have a2 : -(B * 1000) ≤ X * k := by
      by_cases hk0 : 0 ≤ k
      · have q1 := Int.mul_le_mul_of_nonneg_right y2 hk0
        have q2 := Int.mul_le_mul_of_nonneg_left k2 hpos
        have q3 : -B * k = -(B * k) := by rw [Int.neg_mul]
        omega
      · have q1 := Int.mul_le_mul_of_nonpos_right y1 (show k ≤ 0 by omega)
        have q2 := Int.mul_le_mul_of_nonneg_left (show -k ≤ 1000 by omega) hpos
        have q3 : B * -k = -(B * k) := by rw [Int.mul_neg]
        omega
    omega
  have a1 := R.up (-powI (p + 10)) (by omega) (by omega) (by
    rw [sv_neg]
    exact Int.mul_le_mul_of_nonneg_right z.1 (Int.le_of_lt hU))
  have a2 := R.dn (powI (p + 10)) (by omega) (by omega) (Int.mul_le_mul_of_nonneg_right z.2 (Int.le_of_lt hU))
  have b1 := below_exact R (by omega)
  have b2 := above_exact R (by omega)
  refine ⟨R.num, a1, a2, Int.le_of_mul_le_mul_right b1 hU, Int.le_of_mul_le_mul_right b2 hU⟩
end Go.Eng
/- Tapes, part 2: the law's own tapes: contract, and that they may be. Condition: the numbers are a row of integers. -/
namespace Go.Eng
open Go Go.RowKit Go.Eng.Try

/-! ### What is made -/
def cstT (n : Int) : Nat := fdiv (fofint (IntKind.wrap IntKind.i64 (wi n 17 - 8))) 4616189618054758400
def baseT (n : Int) : Nat → List TOp
  | 1 => [⟨1, 0, 0, 0⟩, ⟨0, 0, 0, cstT n⟩]
  | 2 => [⟨1, 0, 0, 0⟩, ⟨1, 1, 0, 0⟩, ⟨0, 0, 0, cstT n⟩]
  | _ => [⟨1, 0, 0, 0⟩, ⟨1, 1, 0, 0⟩, ⟨1, 2, 0, 0⟩, ⟨0, 0, 0, cstT n⟩]
def nsAt (ns : List AV) (i : Nat) : Int := (ns.getD i .undef).toInt
def mkOp (d : Bool) (m : Nat) (k : Int) : TOp :=
  bif wi k 11 == 0 then ⟨0, 0, 0, fdiv (fofint (IntKind.wrap IntKind.i64 (wi (IntKind.wrap IntKind.i64 (Int.tdiv k 11)) 33 - 16))) 4620693217682128896⟩ else
  ⟨bif d && wi k 7 == 0 then 5 else IntKind.wrap IntKind.i64 (2 + wi k 3), wi (IntKind.wrap IntKind.i64 (Int.tdiv k 4)) m, wi (IntKind.wrap IntKind.i64 (Int.tdiv k 40)) m, 0⟩
def mkOps (d : Bool) (base : List TOp) (ns : List AV) : Nat → List TOp
  | 0 => base
  | i + 1 => mkOps d base ns i ++ [mkOp d (base.length + i) (nsAt ns i)]
def outT (n : Int) (m j : Nat) : Int := IntKind.wrap IntKind.i64 (IntKind.wrap IntKind.i64 ((m : Int) - 1) - wi (IntKind.wrap IntKind.i64 (IntKind.wrap IntKind.i64 (Int.tdiv n 3) + (j : Int))) (min3 m))
def outsT (n : Int) (m : Nat) : Nat → List Int
  | 1 => [outT n m 0]
  | 2 => [outT n m 0, outT n m 1]
  | _ => [outT n m 0, outT n m 1, outT n m 2]

theorem mkOps_length (d : Bool) (base : List TOp) (ns : List AV) : ∀ i, (mkOps d base ns i).length = base.length + i
  | 0 => rfl
  | i + 1 => by simp [mkOps, mkOps_length d base ns i]; omega

/-- The constants of made tapes: eighths, from -2 to 2. -/
def cst8 (j : Nat) : Nat := fdiv (fofint ((j : Int) - 16)) 4620693217682128896
def CstOk (c : Nat) : Prop := ∃ j : Nat, j < 33 ∧ c = cst8 j

/-- An operation that may be the i-th. -/
def OpOk (N i : Nat) (o : TOp) : Prop :=
  (o.k = 0 ∧ o.a = 0 ∧ o.b = 0 ∧ CstOk o.c) ∨ (o.k = 1 ∧ 0 ≤ o.a ∧ o.a < N ∧ o.b = 0 ∧ o.c = 0) ∨ ((o.k = 2 ∨ o.k = 3 ∨ o.k = 4 ∨ o.k = 5) ∧ 0 ≤ o.a ∧ o.a < i ∧ 0 ≤ o.b ∧ o.b < i ∧ o.c = 0)
def OpsOk (N : Nat) (ops : List TOp) : Prop := ∀ i, i < ops.length → OpOk N i (ops.getD i op0)

theorem getD_append_left {α : Type} (xs ys : List α) (i : Nat) (z : α) (h : i < xs.length) : (xs ++ ys).getD i z = xs.getD i z := by
  simp [List.getD_eq_getElem?_getD, List.getElem?_append_left h]
theorem getD_append_one {α : Type} (xs : List α) (y z : α) : (xs ++ [y]).getD xs.length z = y := by
  simp [List.getD_eq_getElem?_getD]

theorem OpsOk.snoc {N : Nat} {ops : List TOp} (h : OpsOk N ops) {o : TOp} (ho : OpOk N ops.length o) : OpsOk N (ops ++ [o]) := by
  intro i hi
  by_cases hlt : i < ops.length
  · rw [getD_append_left _ _ _ _ hlt]; exact h i hlt
  · have : i = ops.length := by simp at hi; omega
    subst this
    rw [getD_append_one]; exact ho

theorem fdiv_num {x y : Nat} (h : Ieee.double.div x y = some (fdiv x y)) : fdiv x y < 18446744073709551616 := Ieee.Format.div_lt _ h

theorem cst_4 : ∀ k : Fin 17, fdiv (fofint ((k.val : Int) - 8)) 4616189618054758400 = cst8 (2 * k.val) := by decide +kernel
theorem cst8_fin : ∀ j : Fin 33, Fin64 (cst8 j.val) := by unfold Fin64; decide +kernel
theorem CstOk.fin {c : Nat} (h : CstOk c) : Fin64 c := by
  obtain ⟨j, hj, rfl⟩ := h
  exact cst8_fin ⟨j, hj⟩

theorem cstT_ok (n : Int) : CstOk (cstT n) := by
  have h := wi_range n 17 (by omega) (by omega)
  unfold cstT
  rw [wrapI (by omega) (by omega)]
  have := cst_4 ⟨(wi n 17).toNat, by omega⟩
  simp only [Int.toNat_of_nonneg h.1] at this
  exact ⟨2 * (wi n 17).toNat, by omega, this⟩
theorem mkc_ok (k : Int) : CstOk (fdiv (fofint (IntKind.wrap IntKind.i64 (wi k 33 - 16))) 4620693217682128896) := by
  have h := wi_range k 33 (by omega) (by omega)
  rw [wrapI (by omega) (by omega)]
  refine ⟨(wi k 33).toNat, by omega, ?_⟩
  unfold cst8
  rw [Int.toNat_of_nonneg h.1]

theorem mkOp_ok (N : Nat) (d : Bool) (m : Nat) (k : Int) (h0 : 0 < m) (h1 : m < 1000) : OpOk N m (mkOp d m k) := by
  unfold mkOp
  have r3 := wi_range k 3 (by omega) (by omega)
  have ra := wi_range (IntKind.wrap IntKind.i64 (Int.tdiv k 4)) m (by omega) (by omega)
  have rb := wi_range (IntKind.wrap IntKind.i64 (Int.tdiv k 40)) m (by omega) (by omega)
  cases wi k 11 == 0 with
  | true => exact .inl ⟨rfl, rfl, rfl, mkc_ok _⟩
  | false =>
    refine .inr (.inr ⟨?_, ra.1, ra.2, rb.1, rb.2, rfl⟩)
    cases d && wi k 7 == 0 with
    | true => right; right; right; rfl
    | false =>
      simp only [cond_false]
      rw [wrapI (by omega) (by omega)]
      omega

theorem baseT_ok (n : Int) (N : Nat) (h : N = 1 ∨ N = 2 ∨ N = 3) : OpsOk N (baseT n N) ∧ (baseT n N).length = N + 1 := by
  have c : ∀ i, OpOk N i ⟨0, 0, 0, cstT n⟩ := fun i => .inl ⟨rfl, rfl, rfl, cstT_ok n⟩
  have v : ∀ i (a : Int), 0 ≤ a → a < N → OpOk N i ⟨1, a, 0, 0⟩ := fun i a h0 h1 => .inr (.inl ⟨rfl, h0, h1, rfl, rfl⟩)
  rcases h with rfl | rfl | rfl
  · refine ⟨fun i hi => ?_, rfl⟩
    match i, hi with
    | 0, _ => exact v 0 0 (by omega) (by omega)
    | 1, _ => exact c 1
  · refine ⟨fun i hi => ?_, rfl⟩
    match i, hi with
    | 0, _ => exact v 0 0 (by omega) (by omega)
    | 1, _ => exact v 1 1 (by omega) (by omega)
    | 2, _ => exact c 2
  · refine ⟨fun i hi => ?_, rfl⟩
    match i, hi with
    | 0, _ => exact v 0 0 (by omega) (by omega)
    | 1, _ => exact v 1 1 (by omega) (by omega)
    | 2, _ => exact v 2 2 (by omega) (by omega)
    | 3, _ => exact c 3

theorem mkOps_ok (n : Int) (N : Nat) (hN : N = 1 ∨ N = 2 ∨ N = 3) (d : Bool) (ns : List AV) : ∀ i, i ≤ 8 → OpsOk N (mkOps d (baseT n N) ns i)
  | 0, _ => (baseT_ok n N hN).1
  | i + 1, h => by
    have hl := (baseT_ok n N hN).2
    refine (mkOps_ok n N hN d ns i (by omega)).snoc ?_
    rw [mkOps_length]
    exact mkOp_ok _ _ _ _ (by omega) (by omega)

theorem min3_is (m : Nat) (h : 2 ≤ m) : 2 ≤ min3 m ∧ min3 m ≤ 3 ∧ min3 m ≤ m := by
  unfold min3
  split <;> omega
theorem outT_range (n : Int) (m j : Nat) (h2 : 2 ≤ m) (h3 : m < 1000) (_ : j < 3) : 0 ≤ outT n m j ∧ outT n m j < m := by
  unfold outT
  obtain ⟨a1, a2, a3⟩ := min3_is m h2
  have h := wi_range (IntKind.wrap IntKind.i64 (IntKind.wrap IntKind.i64 (Int.tdiv n 3) + (j : Int))) (min3 m) (by omega) (by omega)
  rw [wrapI (m := (m : Int) - 1) (by omega) (by omega), wrapI (by omega) (by omega)]
  omega
end Go.Eng
/- Fields, part 2: one value, one slope of a field of floats: contracts and entries. Condition: the operation may be. -/
namespace Go.Eng
open Go Go.RowKit

theorem rAt_mem {T : Type} (z : T) (rs : List (Rg T)) (a : Int) (h0 : 0 ≤ a) (h1 : a < rs.length) : rAt z rs a ∈ rs := by
  unfold rAt
  have h : a.toNat < rs.length := by omega
  rw [List.getD_eq_getElem?_getD, List.getElem?_eq_getElem h]
  exact List.getElem_mem h

theorem rgF_at (N : Nat) (rs : List (Rg Nat)) (a : Int) (h0 : 0 ≤ a) (h1 : a < rs.length) : (rgF N rs).getD (a.toNat * 2) .undef = .flt (rAt 0 rs a).v ∧ (rgF N rs).getD (a.toNat * 2 + 1) .undef = .snap (fltL (rAt 0 rs a).d) N := by
  have := rgF_get N rs a.toNat (by omega)
  rw [Nat.mul_comm]
  exact this

/-- Cells read as floats, as registers. -/
def unF (cs : List AV) : List Nat := cs.map AV.toFlt
def unRg : List AV → List (Rg Nat)
  | .flt v :: .snap d _ :: rest => ⟨v, unF d⟩ :: unRg rest
  | _ => []
theorem unF_flt (xs : List Nat) : unF (fltL xs) = xs := by
  unfold unF fltL
  rw [List.map_map]
  have : (AV.toFlt ∘ AV.flt) = id := by funext x; rfl
  rw [this, List.map_id]
theorem unRg_rg (N : Nat) (rs : List (Rg Nat)) : unRg (rgF N rs) = rs := by
  induction rs with
  | nil => rfl
  | cons r rs ih => simp [rgF, unRg, unF_flt, ih]

/-- A row of registers, all as wide. -/
def Wide {T : Type} (N : Nat) (rs : List (Rg T)) : Prop := ∀ r ∈ rs, r.d.length = N

def ValOk (kk : AV) (k1 k2 k3 : IntKind) (o : TOp) (xc : List AV) (lx : Nat) (cells : List AV) (l : Nat) : Prop :=
  kk = Try.jKinds ∧ k1 = .i64 ∧ k2 = .i64 ∧ k3 = .i64 ∧ ∃ N xs rs, xc = fltL xs ∧ lx = xs.length ∧ cells = rgF N rs ∧ l = rs.length ∧ Wide N rs ∧ OpOk xs.length rs.length o
def SloOk (kk : AV) (k1 k2 k3 k4 : IntKind) (o : TOp) (i : Int) (cells : List AV) (l : Nat) : Prop :=
  kk = Try.jKinds ∧ k1 = .i64 ∧ k2 = .i64 ∧ k3 = .i64 ∧ k4 = .i64 ∧ ∃ N rs M, cells = rgF N rs ∧ l = rs.length ∧ Wide N rs ∧ OpOk M rs.length o ∧ 0 ≤ i ∧ i < N

namespace Try
open Go.Proofs.Try

theorem con_jVal (N : Nat) (xs : List Nat) (rs : List (Rg Nat)) (o : TOp) (hw : Wide N rs) (ho : OpOk xs.length rs.length o) (nb : Nat) :
    Con prog 154 [jKinds, .agg [.int .i64 o.k, .int .i64 o.a, .int .i64 o.b, .flt o.c], .snap (fltL xs) xs.length, .snap (rgF N rs) rs.length] nb (.flt (valR kF 0 xs rs o)) [] := by
  obtain ⟨k, a, b, c⟩ := o
  dsimp only
  rcases ho with ⟨hk, _⟩ | ⟨hk, h0, h1, _⟩ | ⟨hk, h0, h1, h2, h3, _⟩
  · dsimp only at hk
    subst hk
    have := jVal0 xs xs.length (rgF N rs) rs.length a b c nb
    simpa [valR, kF] using this
  · dsimp only at hk h0 h1
    subst hk
    have h : a.toNat < xs.length := by omega
    have g := fltL_get h
    have := jVal1 xs xs.length (rgF N rs) rs.length a b c nb (by simp only [Nat.mul_one, g]; simp [AV.isFlt, fltL_length, h]; omega)
    rw [Nat.mul_one, g] at this
    simpa [valR, AV.toFlt] using this
  · dsimp only at hk h0 h1 h2 h3
    obtain ⟨ea, ea1⟩ := rgF_at N rs a h0 h1
    obtain ⟨eb, eb1⟩ := rgF_at N rs b h2 h3
    have la : a.toNat * 2 < 2 * rs.length := by omega
    have lb : b.toNat * 2 < 2 * rs.length := by omega
    rcases hk with hk | hk | hk | hk <;> subst hk
    · have := jVal2 xs xs.length (rgF N rs) rs.length a b c nb (by simp only [Nat.add_zero, ea, eb]; simp [AV.isFlt, rgF_length, la, lb]; omega)
      rw [Nat.add_zero, Nat.add_zero, ea, eb] at this
      simpa [valR, AV.toFlt, Kd.op, kF] using this
    · have := jVal3 xs xs.length (rgF N rs) rs.length a b c nb (by simp only [Nat.add_zero, ea, eb]; simp [AV.isFlt, rgF_length, la, lb]; omega)
      rw [Nat.add_zero, Nat.add_zero, ea, eb] at this
      simpa [valR, AV.toFlt, Kd.op, kF] using this
    · have := jVal4 xs xs.length (rgF N rs) rs.length a b c nb (by simp only [Nat.add_zero, ea, eb]; simp [AV.isFlt, rgF_length, la, lb]; omega)
      rw [Nat.add_zero, Nat.add_zero, ea, eb] at this
      simpa [valR, AV.toFlt, Kd.op, kF] using this
    · have := jVal5 xs xs.length (rgF N rs) rs.length a b c nb (by simp only [Nat.add_zero, ea, eb]; simp [AV.isFlt, rgF_length, la, lb]; omega)
      rw [Nat.add_zero, Nat.add_zero, ea, eb] at this
      simpa [valR, AV.toFlt, Kd.op, kF] using this

theorem con_jSlo (N : Nat) (rs : List (Rg Nat)) (o : TOp) (M : Nat) (hw : Wide N rs) (ho : OpOk M rs.length o) (i : Nat) (hi : i < N) (q : Nat) (nb : Nat) :
    Con prog 155 [jKinds, .agg [.int .i64 o.k, .int .i64 o.a, .int .i64 o.b, .flt o.c], .int .i64 (i : Int), .flt q, .snap (rgF N rs) rs.length] nb (.flt (slopeR kF 0 rs o q i)) [] := by
  obtain ⟨k, a, b, c⟩ := o
  dsimp only
  rcases ho with ⟨hk, _⟩ | ⟨hk, h0, h1, _⟩ | ⟨hk, h0, h1, h2, h3, _⟩
  · dsimp only at hk
    subst hk
    have := jSlo0 (rgF N rs) rs.length a b c i q nb
    simpa [slopeR, kF] using this
  · dsimp only at hk h0 h1
    subst hk
    by_cases hai : a = (i : Int)
    · have := jSlo1t (rgF N rs) rs.length a b c i q nb (by simp [hai])
      simpa [slopeR, kF, hai] using this
    · have := jSlo1f (rgF N rs) rs.length a b c i q nb (by simp [hai])
      simpa [slopeR, kF, hai] using this
  · dsimp only at hk h0 h1 h2 h3
    obtain ⟨ea, ea1⟩ := rgF_at N rs a h0 h1
    obtain ⟨eb, eb1⟩ := rgF_at N rs b h2 h3
    have la : a.toNat * 2 + 2 ≤ 2 * rs.length := by omega
    have lb : b.toNat * 2 + 2 ≤ 2 * rs.length := by omega
    have da := hw _ (rAt_mem 0 rs a h0 h1)
    have db := hw _ (rAt_mem 0 rs b h2 h3)
    have ga := fltL_get (xs := (rAt 0 rs a).d) (i := i) (by omega)
    have gb := fltL_get (xs := (rAt 0 rs b).d) (i := i) (by omega)
    rcases hk with hk | hk | hk | hk <;> subst hk
    · have := jSlo2 (rgF N rs) rs.length a b c i q nb (by
        simp only [etasOk, ea1, eb1, ea, eb, AV.sCells, AV.sLen, Int.toNat_natCast, Nat.mul_one, ga, gb, AV.etaOk, AV.isFlt, AV.isSn]
        simp [rgF_length, fltL_length, da, db, hi, la, lb]; omega)
      simp only [ea1, eb1, ea, eb, AV.sCells, Int.toNat_natCast, Nat.mul_one, ga, gb, AV.toFlt] at this
      simpa [slopeR, kF] using this
    · have := jSlo3 (rgF N rs) rs.length a b c i q nb (by
        simp only [etasOk, ea1, eb1, ea, eb, AV.sCells, AV.sLen, Int.toNat_natCast, Nat.mul_one, ga, gb, AV.etaOk, AV.isFlt, AV.isSn]
        simp [rgF_length, fltL_length, da, db, hi, la, lb]; omega)
      simp only [ea1, eb1, ea, eb, AV.sCells, Int.toNat_natCast, Nat.mul_one, ga, gb, AV.toFlt] at this
      simpa [slopeR, kF] using this
    · have := jSlo4 (rgF N rs) rs.length a b c i q nb (by
        simp only [etasOk, ea1, eb1, ea, eb, AV.sCells, AV.sLen, Int.toNat_natCast, Nat.mul_one, ga, gb, AV.etaOk, AV.isFlt, AV.isSn]
        simp [rgF_length, fltL_length, da, db, hi, la, lb]; omega)
      simp only [ea1, eb1, ea, eb, AV.sCells, Int.toNat_natCast, Nat.mul_one, ga, gb, AV.toFlt] at this
      simpa [slopeR, kF] using this
    · have := jSlo5 (rgF N rs) rs.length a b c i q nb (by
        simp only [etasOk, ea1, eb1, ea, eb, AV.sCells, AV.sLen, Int.toNat_natCast, Nat.mul_one, ga, gb, AV.etaOk, AV.isFlt, AV.isSn]
        simp [rgF_length, fltL_length, da, db, hi, la, lb]; omega)
      simp only [ea1, eb1, ea, eb, AV.sCells, Int.toNat_natCast, Nat.mul_one, ga, gb, AV.toFlt] at this
      simpa [slopeR, kF] using this

noncomputable def eVal : Entry := ⟨154, fun ys _ => match ys with
  | [kk, .agg [.int k1 k, .int k2 a, .int k3 b, .flt c], .snap xc lx, .snap cells l] => some ⟨.flt (valR kF 0 (unF xc) (unRg cells) ⟨k, a, b, c⟩), [], pb (ValOk kk k1 k2 k3 ⟨k, a, b, c⟩ xc lx cells l)⟩
  | _ => none⟩
theorem eVal_ok : EntryOK prog eVal := by
  intro ys n r h hok
  simp only [eVal] at h
  split at h
  · cases h
    obtain ⟨rfl, rfl, rfl, rfl, N, xs, rs, rfl, rfl, rfl, rfl, hw, ho⟩ := pb_is.1 hok
    dsimp only
    rw [unF_flt, unRg_rg]
    exact con_jVal N xs rs _ hw ho n
  · cases h

noncomputable def eSlo : Entry := ⟨155, fun ys _ => match ys with
  | [kk, .agg [.int k1 k, .int k2 a, .int k3 b, .flt c], .int k4 i, .flt q, .snap cells l] => some ⟨.flt (slopeR kF 0 (unRg cells) ⟨k, a, b, c⟩ q i.toNat), [], pb (SloOk kk k1 k2 k3 k4 ⟨k, a, b, c⟩ i cells l)⟩
  | _ => none⟩
theorem eSlo_ok : EntryOK prog eSlo := by
  intro ys n r h hok
  simp only [eSlo] at h
  split at h
  · rename_i kk k1 k k2 a k3 b c k4 i q cells l
    cases h
    obtain ⟨rfl, rfl, rfl, rfl, rfl, N, rs, M, rfl, rfl, hw, ho, h0, h1⟩ := pb_is.1 hok
    obtain ⟨j, rfl⟩ := Int.eq_ofNat_of_zero_le h0
    dsimp only
    rw [unRg_rg]
    exact con_jSlo N rs _ M hw ho j (by omega) q n
  · cases h

noncomputable def esJ : List Entry := [eVal, eSlo] ++ es4
theorem esJ_ok : ∀ e ∈ esJ, EntryOK prog e := by
  intro e he
  rcases List.mem_cons.1 he with rfl | he
  · exact eVal_ok
  rcases List.mem_cons.1 he with rfl | he
  · exact eSlo_ok
  · exact es4_ok e he
noncomputable abbrev CJ : Ctx := ctxD prog esJ 8 (shallow [154, 155])
theorem OJ : OrcOK CJ.P CJ.orc := ctxD_ok mixed esJ_ok 8 _
end Try
end Go.Eng
/- From-tos as cells: rows, registers. No condition. -/
namespace Go.Eng
open Go Go.RowKit

def z2 : Nat × Nat := (0, 0)
/-- Rows of from-tos as cells. -/
def ivL : List (Nat × Nat) → List AV
  | [] => []
  | x :: xs => .flt x.1 :: .flt x.2 :: ivL xs
theorem ivL_append (xs ys : List (Nat × Nat)) : ivL (xs ++ ys) = ivL xs ++ ivL ys := by
  induction xs with
  | nil => rfl
  | cons x xs ih => simp [ivL, ih]
theorem ivL_length (xs : List (Nat × Nat)) : (ivL xs).length = 2 * xs.length := by
  induction xs with
  | nil => rfl
  | cons x xs ih => simp only [ivL, List.length_cons, ih]; omega
theorem ivL_noOwn (xs : List (Nat × Nat)) : (ivL xs).all AV.noOwn = true := by
  induction xs with
  | nil => rfl
  | cons x xs ih => simp [ivL, AV.noOwn, ih]
theorem ivL_one (xs : List (Nat × Nat)) : (ivL xs).all AV.one = true := by
  induction xs with
  | nil => rfl
  | cons x xs ih => simp [ivL, AV.one, ih]
theorem ivL_scal (xs : List (Nat × Nat)) : (ivL xs).all AV.scal = true := by
  induction xs with
  | nil => rfl
  | cons x xs ih => simp [ivL, AV.scal, ih]
theorem ivL_get : ∀ (xs : List (Nat × Nat)) (i : Nat), i < xs.length → (ivL xs).getD (i * 2) .undef = .flt (xs.getD i z2).1 ∧ (ivL xs).getD (i * 2 + 1) .undef = .flt (xs.getD i z2).2
  | [], i, h => by simp at h
  | x :: xs, 0, _ => by simp [ivL]
  | x :: xs, i + 1, h => by
    have ih := ivL_get xs i (by simpa using h)
    have e : ∀ j, (ivL (x :: xs)).getD ((i + 1) * 2 + j) .undef = (ivL xs).getD (i * 2 + j) .undef := by
      intro j
      have : (i + 1) * 2 + j = (i * 2 + j) + 2 := by omega
      rw [this]
      simp [ivL]
    have e0 := e 0
    simp only [Nat.add_zero] at e0
    rw [e0, e 1]
    simpa using ih
def unI : List AV → List (Nat × Nat)
  | .flt a :: .flt b :: rest => (a, b) :: unI rest
  | _ => []
theorem unI_iv (xs : List (Nat × Nat)) : unI (ivL xs) = xs := by
  induction xs with
  | nil => rfl
  | cons x xs ih => simp [ivL, unI, ih]

/-- Registers of from-tos as cells. -/
def rgI (N : Nat) : List (Rg (Nat × Nat)) → List AV
  | [] => []
  | r :: rs => .flt r.v.1 :: .flt r.v.2 :: .snap (ivL r.d) N :: rgI N rs
theorem rgI_append (N : Nat) (xs ys : List (Rg (Nat × Nat))) : rgI N (xs ++ ys) = rgI N xs ++ rgI N ys := by
  induction xs with
  | nil => rfl
  | cons x xs ih => simp [rgI, ih]
theorem rgI_length (N : Nat) (xs : List (Rg (Nat × Nat))) : (rgI N xs).length = 3 * xs.length := by
  induction xs with
  | nil => rfl
  | cons x xs ih => simp only [rgI, List.length_cons, ih]; omega
theorem rgI_noOwn (N : Nat) (xs : List (Rg (Nat × Nat))) : (rgI N xs).all AV.noOwn = true := by
  induction xs with
  | nil => rfl
  | cons x xs ih => simp [rgI, AV.noOwn, ih]
theorem rgI_get (N : Nat) : ∀ (xs : List (Rg (Nat × Nat))) (i : Nat), i < xs.length → (rgI N xs).getD (i * 3) .undef = .flt (xs.getD i ⟨z2, []⟩).v.1 ∧ (rgI N xs).getD (i * 3 + 1) .undef = .flt (xs.getD i ⟨z2, []⟩).v.2 ∧ (rgI N xs).getD (i * 3 + 2) .undef = .snap (ivL (xs.getD i ⟨z2, []⟩).d) N
  | [], i, h => by simp at h
  | x :: xs, 0, _ => by simp [rgI]
  | x :: xs, i + 1, h => by
    have ih := rgI_get N xs i (by simpa using h)
    have e : ∀ j, (rgI N (x :: xs)).getD ((i + 1) * 3 + j) .undef = (rgI N xs).getD (i * 3 + j) .undef := by
      intro j
      have : (i + 1) * 3 + j = (i * 3 + j) + 3 := by omega
      rw [this]
      simp [rgI]
    have e0 := e 0
    simp only [Nat.add_zero] at e0
    rw [e0, e 1, e 2]
    simpa using ih
def unRgI : List AV → List (Rg (Nat × Nat))
  | .flt a :: .flt b :: .snap d _ :: rest => ⟨(a, b), unI d⟩ :: unRgI rest
  | _ => []
theorem unRgI_rg (N : Nat) (rs : List (Rg (Nat × Nat))) : unRgI (rgI N rs) = rs := by
  induction rs with
  | nil => rfl
  | cons r rs ih => simp [rgI, unRgI, unI_iv, ih]
theorem rgI_at (N : Nat) (rs : List (Rg (Nat × Nat))) (a : Int) (h0 : 0 ≤ a) (h1 : a < rs.length) : (rgI N rs).getD (a.toNat * 3) .undef = .flt (rAt z2 rs a).v.1 ∧ (rgI N rs).getD (a.toNat * 3 + 1) .undef = .flt (rAt z2 rs a).v.2 ∧ (rgI N rs).getD (a.toNat * 3 + 2) .undef = .snap (ivL (rAt z2 rs a).d) N :=
  rgI_get N rs a.toNat (by omega)
end Go.Eng
/- Models, part 1: polynomials with what is left: what they are reckoned as; ranges. No condition. -/
namespace Go.Eng
open Go Go.RowKit

/-- A Model: nine from-tos, and what is left. -/
structure Mod where
  c0 : Nat × Nat
  c1 : Nat × Nat
  c2 : Nat × Nat
  c3 : Nat × Nat
  c4 : Nat × Nat
  c5 : Nat × Nat
  c6 : Nat × Nat
  c7 : Nat × Nat
  c8 : Nat × Nat
  r : Nat × Nat

def pEven : Nat × Nat := (0, 4607182418800017408)
def pOdd : Nat × Nat := (13830554455654793216, 0)
def polyV (m : Mod) : Nat × Nat :=
  let a := kI.add
  let u := kI.mul
  a (a (a (a (a (a (a (a m.c0 (u m.c1 pOdd)) (u m.c2 pEven)) (u m.c3 pOdd)) (u m.c4 pEven)) (u m.c5 pOdd)) (u m.c6 pEven)) (u m.c7 pOdd)) (u m.c8 pEven)
def rangeV (m : Mod) : Nat × Nat := kI.add (polyV m) m.r

def modC (m : Mod) : List AV := [.flt m.c0.1, .flt m.c0.2, .flt m.c1.1, .flt m.c1.2, .flt m.c2.1, .flt m.c2.2, .flt m.c3.1, .flt m.c3.2, .flt m.c4.1, .flt m.c4.2, .flt m.c5.1, .flt m.c5.2, .flt m.c6.1, .flt m.c6.2, .flt m.c7.1, .flt m.c7.2, .flt m.c8.1, .flt m.c8.2]
def modL (m : Mod) : List AV := modC m ++ [.flt m.r.1, .flt m.r.2]

namespace Try
open Go.Proofs.Try
noncomputable abbrev CWm : Ctx := ctx prog esU 8
theorem OWm : OrcOK CWm.P CWm.orc := ctx_ok mixed esU_ok 8

theorem con_poly (m : Mod) (nb : Nat) : Con prog 94 [.agg (modC m)] nb (ivV (polyV m)) [] :=
  con_evF OWm mixed (qs := []) (dec := []) (r := ⟨ivV (polyV m), [], true⟩) (by kernel_rfl) rfl
theorem con_range (m : Mod) (nb : Nat) : Con prog 77 [.agg (modL m)] nb (ivV (rangeV m)) [] :=
  con_evF OWm mixed (qs := []) (dec := []) (r := ⟨ivV (rangeV m), [], true⟩) (by kernel_rfl) rfl
end Try
end Go.Eng
/- Models, part 2: sums, products, quotients of the program's. No condition. Written by wip/tools/genW2.py. -/
namespace Go.Eng
open Go Go.RowKit

def z0 : Nat × Nat := (0, 0)
def restStep (a b : Nat × Nat) (e : Bool) (r : Nat × Nat) : Nat × Nat := kI.add r (kI.mul (kI.mul a b) (bif e then pEven else pOdd))
def restV (a b : Mod) : Nat × Nat :=
  let s := restStep
  s a.c8 b.c8 true (s a.c8 b.c7 false (s a.c8 b.c6 true (s a.c8 b.c5 false (s a.c8 b.c4 true (s a.c8 b.c3 false (s a.c8 b.c2 true (s a.c8 b.c1 false (s a.c7 b.c8 false (s a.c7 b.c7 true (s a.c7 b.c6 false (s a.c7 b.c5 true (s a.c7 b.c4 false (s a.c7 b.c3 true (s a.c7 b.c2 false (s a.c6 b.c8 true (s a.c6 b.c7 false (s a.c6 b.c6 true (s a.c6 b.c5 false (s a.c6 b.c4 true (s a.c6 b.c3 false (s a.c5 b.c8 false (s a.c5 b.c7 true (s a.c5 b.c6 false (s a.c5 b.c5 true (s a.c5 b.c4 false (s a.c4 b.c8 true (s a.c4 b.c7 false (s a.c4 b.c6 true (s a.c4 b.c5 false (s a.c3 b.c8 false (s a.c3 b.c7 true (s a.c3 b.c6 false (s a.c2 b.c8 true (s a.c2 b.c7 false (s a.c1 b.c8 false (z0))))))))))))))))))))))))))))))))))))
def mulM (a b : Mod) : Mod :=
  let p := kI.add
  let u := kI.mul
  ⟨u a.c0 b.c0, p (u a.c0 b.c1) (u a.c1 b.c0), p (p (u a.c0 b.c2) (u a.c1 b.c1)) (u a.c2 b.c0), p (p (p (u a.c0 b.c3) (u a.c1 b.c2)) (u a.c2 b.c1)) (u a.c3 b.c0), p (p (p (p (u a.c0 b.c4) (u a.c1 b.c3)) (u a.c2 b.c2)) (u a.c3 b.c1)) (u a.c4 b.c0), p (p (p (p (p (u a.c0 b.c5) (u a.c1 b.c4)) (u a.c2 b.c3)) (u a.c3 b.c2)) (u a.c4 b.c1)) (u a.c5 b.c0), p (p (p (p (p (p (u a.c0 b.c6) (u a.c1 b.c5)) (u a.c2 b.c4)) (u a.c3 b.c3)) (u a.c4 b.c2)) (u a.c5 b.c1)) (u a.c6 b.c0), p (p (p (p (p (p (p (u a.c0 b.c7) (u a.c1 b.c6)) (u a.c2 b.c5)) (u a.c3 b.c4)) (u a.c4 b.c3)) (u a.c5 b.c2)) (u a.c6 b.c1)) (u a.c7 b.c0), p (p (p (p (p (p (p (p (u a.c0 b.c8) (u a.c1 b.c7)) (u a.c2 b.c6)) (u a.c3 b.c5)) (u a.c4 b.c4)) (u a.c5 b.c3)) (u a.c6 b.c2)) (u a.c7 b.c1)) (u a.c8 b.c0), p (p (restV a b) (u a.r (rangeV b))) (u (polyV a) b.r)⟩
def addM (a b : Mod) : Mod := ⟨kI.add a.c0 b.c0, kI.add a.c1 b.c1, kI.add a.c2 b.c2, kI.add a.c3 b.c3, kI.add a.c4 b.c4, kI.add a.c5 b.c5, kI.add a.c6 b.c6, kI.add a.c7 b.c7, kI.add a.c8 b.c8, kI.add a.r b.r⟩
def subM (a b : Mod) : Mod := ⟨kI.sub a.c0 b.c0, kI.sub a.c1 b.c1, kI.sub a.c2 b.c2, kI.sub a.c3 b.c3, kI.sub a.c4 b.c4, kI.sub a.c5 b.c5, kI.sub a.c6 b.c6, kI.sub a.c7 b.c7, kI.sub a.c8 b.c8, kI.sub a.r b.r⟩

namespace Try
open Go.Proofs.Try
theorem con_addM (a b : Mod) (nb : Nat) : Con prog 91 [.agg (modL a), .agg (modL b)] nb (.agg (modL (addM a b))) [] :=
  con_evF OWm mixed (qs := []) (dec := []) (r := ⟨.agg (modL (addM a b)), [], true⟩) (by kernel_rfl) rfl
theorem con_subM (a b : Mod) (nb : Nat) : Con prog 117 [.agg (modL a), .agg (modL b)] nb (.agg (modL (subM a b))) [] :=
  con_evF OWm mixed (qs := []) (dec := []) (r := ⟨.agg (modL (subM a b)), [], true⟩) (by kernel_rfl) rfl
theorem con_raddM (a b : Mod) (nb : Nat) : Con prog 163 [.agg (modL a), .agg (modL b)] nb (.agg (modL (addM a b))) [] :=
  con_evF OWm mixed (qs := []) (dec := []) (r := ⟨.agg (modL (addM a b)), [], true⟩) (by kernel_rfl) rfl
theorem con_rsubM (a b : Mod) (nb : Nat) : Con prog 164 [.agg (modL a), .agg (modL b)] nb (.agg (modL (subM a b))) [] :=
  con_evF OWm mixed (qs := []) (dec := []) (r := ⟨.agg (modL (subM a b)), [], true⟩) (by kernel_rfl) rfl
theorem con_rpoly (m : Mod) (nb : Nat) : Con prog 187 [.agg (modL m)] nb (ivV (polyV m)) [] :=
  con_evF OWm mixed (qs := []) (dec := []) (r := ⟨ivV (polyV m), [], true⟩) (by kernel_rfl) rfl
theorem con_rrange (m : Mod) (nb : Nat) : Con prog 186 [.agg (modL m)] nb (ivV (rangeV m)) [] :=
  con_evF OWm mixed (qs := []) (dec := []) (r := ⟨ivV (rangeV m), [], true⟩) (by kernel_rfl) rfl
theorem con_mulM (a b : Mod) (nb : Nat) : Con prog 35 [.agg (modL a), .agg (modL b)] nb (.agg (modL (mulM a b))) [] :=
  con_evF OWm mixed (qs := []) (dec := []) (r := ⟨.agg (modL (mulM a b)), [], true⟩) (by kernel_rfl) rfl
theorem con_rmulM (a b : Mod) (nb : Nat) : Con prog 165 [.agg (modL a), .agg (modL b)] nb (.agg (modL (mulM a b))) [] :=
  con_evF OWm mixed (qs := []) (dec := []) (r := ⟨.agg (modL (mulM a b)), [], true⟩) (by kernel_rfl) rfl
end Try
end Go.Eng
/- Models, part 3: entries. No condition. -/
namespace Go.Eng
open Go Go.RowKit

def unMod : List AV → Option Mod
  | [.flt a0, .flt b0, .flt a1, .flt b1, .flt a2, .flt b2, .flt a3, .flt b3, .flt a4, .flt b4, .flt a5, .flt b5, .flt a6, .flt b6, .flt a7, .flt b7, .flt a8, .flt b8, .flt ra, .flt rb] =>
    some ⟨(a0, b0), (a1, b1), (a2, b2), (a3, b3), (a4, b4), (a5, b5), (a6, b6), (a7, b7), (a8, b8), (ra, rb)⟩
  | _ => none
theorem unMod_is {cs : List AV} {m : Mod} (h : unMod cs = some m) : cs = modL m := by
  unfold unMod at h
  split at h
  · cases h; rfl
  · cases h

namespace Try
open Go.Proofs.Try

def eM2 (f : FuncId) (g : Mod → Mod → Mod) : Entry := ⟨f, fun ys _ => match ys with
  | [.agg xs, .agg zs] => match unMod xs, unMod zs with
    | some a, some b => some ⟨.agg (modL (g a b)), [], true⟩
    | _, _ => none
  | _ => none⟩
theorem eM2_ok {f : FuncId} {g : Mod → Mod → Mod} (hc : ∀ a b nb, Con prog f [.agg (modL a), .agg (modL b)] nb (.agg (modL (g a b))) []) : EntryOK prog (eM2 f g) := by
  intro ys n r h hok
  simp only [eM2] at h
  split at h
  · split at h
    · rename_i a b ha hb
      cases h
      rw [unMod_is ha, unMod_is hb]
      exact hc a b n
    · cases h
  · cases h
def eM1 (f : FuncId) (g : Mod → Nat × Nat) : Entry := ⟨f, fun ys _ => match ys with
  | [.agg xs] => match unMod xs with
    | some a => some ⟨ivV (g a), [], true⟩
    | _ => none
  | _ => none⟩
theorem eM1_ok {f : FuncId} {g : Mod → Nat × Nat} (hc : ∀ a nb, Con prog f [.agg (modL a)] nb (ivV (g a)) []) : EntryOK prog (eM1 f g) := by
  intro ys n r h hok
  simp only [eM1] at h
  split at h
  · split at h
    · rename_i a ha
      cases h
      rw [unMod_is ha]
      exact hc a n
    · cases h
  · cases h

def esM : List Entry := [eM2 35 mulM, eM2 91 addM, eM2 117 subM, eM1 77 rangeV, eM2 165 mulM, eM2 163 addM, eM2 164 subM, eM1 186 rangeV] ++ esU
theorem esM_ok : ∀ e ∈ esM, EntryOK prog e := by
  intro e he
  simp only [esM, List.cons_append, List.nil_append, List.mem_cons] at he
  rcases he with rfl | rfl | rfl | rfl | rfl | rfl | rfl | rfl | he
  · exact eM2_ok con_mulM
  · exact eM2_ok con_addM
  · exact eM2_ok con_subM
  · exact eM1_ok con_range
  · exact eM2_ok con_rmulM
  · exact eM2_ok con_raddM
  · exact eM2_ok con_rsubM
  · exact eM1_ok con_rrange
  · exact esU_ok e he
noncomputable abbrev CX : Ctx := ctx prog esM 8
theorem OX : OrcOK CX.P CX.orc := ctx_ok mixed esM_ok 8
end Try
end Go.Eng
/- Models, part 4: quotients, of the program's and of the document's. No condition. Written by wip/tools/genW15.py. -/
namespace Go.Eng
open Go Go.RowKit

def dvS0 (a b : Mod) : Nat × Nat :=
  let s := kI.sub
  let u := kI.mul
  let d := kI.div
  d (a.c0) b.c0
def dvS1 (a b : Mod) (q0 : Nat × Nat) : Nat × Nat :=
  let s := kI.sub
  let u := kI.mul
  let d := kI.div
  d (s (a.c1) (u b.c1 q0)) b.c0
def dvS2 (a b : Mod) (q0 q1 : Nat × Nat) : Nat × Nat :=
  let s := kI.sub
  let u := kI.mul
  let d := kI.div
  d (s (s (a.c2) (u b.c1 q1)) (u b.c2 q0)) b.c0
def dvS3 (a b : Mod) (q0 q1 q2 : Nat × Nat) : Nat × Nat :=
  let s := kI.sub
  let u := kI.mul
  let d := kI.div
  d (s (s (s (a.c3) (u b.c1 q2)) (u b.c2 q1)) (u b.c3 q0)) b.c0
def dvS4 (a b : Mod) (q0 q1 q2 q3 : Nat × Nat) : Nat × Nat :=
  let s := kI.sub
  let u := kI.mul
  let d := kI.div
  d (s (s (s (s (a.c4) (u b.c1 q3)) (u b.c2 q2)) (u b.c3 q1)) (u b.c4 q0)) b.c0
def dvS5 (a b : Mod) (q0 q1 q2 q3 q4 : Nat × Nat) : Nat × Nat :=
  let s := kI.sub
  let u := kI.mul
  let d := kI.div
  d (s (s (s (s (s (a.c5) (u b.c1 q4)) (u b.c2 q3)) (u b.c3 q2)) (u b.c4 q1)) (u b.c5 q0)) b.c0
def dvS6 (a b : Mod) (q0 q1 q2 q3 q4 q5 : Nat × Nat) : Nat × Nat :=
  let s := kI.sub
  let u := kI.mul
  let d := kI.div
  d (s (s (s (s (s (s (a.c6) (u b.c1 q5)) (u b.c2 q4)) (u b.c3 q3)) (u b.c4 q2)) (u b.c5 q1)) (u b.c6 q0)) b.c0
def dvS7 (a b : Mod) (q0 q1 q2 q3 q4 q5 q6 : Nat × Nat) : Nat × Nat :=
  let s := kI.sub
  let u := kI.mul
  let d := kI.div
  d (s (s (s (s (s (s (s (a.c7) (u b.c1 q6)) (u b.c2 q5)) (u b.c3 q4)) (u b.c4 q3)) (u b.c5 q2)) (u b.c6 q1)) (u b.c7 q0)) b.c0
def dvS8 (a b : Mod) (q0 q1 q2 q3 q4 q5 q6 q7 : Nat × Nat) : Nat × Nat :=
  let s := kI.sub
  let u := kI.mul
  let d := kI.div
  d (s (s (s (s (s (s (s (s (a.c8) (u b.c1 q7)) (u b.c2 q6)) (u b.c3 q5)) (u b.c4 q4)) (u b.c5 q3)) (u b.c6 q2)) (u b.c7 q1)) (u b.c8 q0)) b.c0
def dvQ0 (a b : Mod) : Nat × Nat := dvS0 a b
def dvQ1 (a b : Mod) : Nat × Nat := dvS1 a b (dvQ0 a b)
def dvQ2 (a b : Mod) : Nat × Nat := dvS2 a b (dvQ0 a b) (dvQ1 a b)
def dvQ3 (a b : Mod) : Nat × Nat := dvS3 a b (dvQ0 a b) (dvQ1 a b) (dvQ2 a b)
def dvQ4 (a b : Mod) : Nat × Nat := dvS4 a b (dvQ0 a b) (dvQ1 a b) (dvQ2 a b) (dvQ3 a b)
def dvQ5 (a b : Mod) : Nat × Nat := dvS5 a b (dvQ0 a b) (dvQ1 a b) (dvQ2 a b) (dvQ3 a b) (dvQ4 a b)
def dvQ6 (a b : Mod) : Nat × Nat := dvS6 a b (dvQ0 a b) (dvQ1 a b) (dvQ2 a b) (dvQ3 a b) (dvQ4 a b) (dvQ5 a b)
def dvQ7 (a b : Mod) : Nat × Nat := dvS7 a b (dvQ0 a b) (dvQ1 a b) (dvQ2 a b) (dvQ3 a b) (dvQ4 a b) (dvQ5 a b) (dvQ6 a b)
def dvQ8 (a b : Mod) : Nat × Nat := dvS8 a b (dvQ0 a b) (dvQ1 a b) (dvQ2 a b) (dvQ3 a b) (dvQ4 a b) (dvQ5 a b) (dvQ6 a b) (dvQ7 a b)
def dvM (a b : Mod) : Mod := ⟨dvQ0 a b, dvQ1 a b, dvQ2 a b, dvQ3 a b, dvQ4 a b, dvQ5 a b, dvQ6 a b, dvQ7 a b, dvQ8 a b, z0⟩
def dvR (a b : Mod) : Nat × Nat := kI.div (rangeV (subM a (mulM b (dvM a b)))) (rangeV b)
def noneM : Mod := ⟨z0, z0, z0, z0, z0, z0, z0, z0, z0, (ninfB, infB)⟩
def hold0 (x : Nat × Nat) : Bool := fle x.1 0 && fle 0 x.2
def divB (b : Mod) : Bool := hold0 b.c0 || hold0 (rangeV b)
def divM (a b : Mod) : Mod := bif divB b then noneM else { dvM a b with r := dvR a b }

namespace Try
open Go.Proofs.Try
def tB (b : Mod) : Bool := !((hold0 b.c0 == false) && (hold0 (rangeV b) == false))
theorem tB_is (b : Mod) : tB b = divB b := by unfold tB divB; cases hold0 b.c0 <;> cases hold0 (rangeV b) <;> rfl
theorem con_divT (a b : Mod) (nb : Nat) (h : tB b = true) : Con prog 118 [.agg (modL a), .agg (modL b)] nb (.agg (modL noneM)) [] :=
  con_evF OX mixed (qs := [20]) (dec := [true]) (r := ⟨.agg (modL noneM), [], tB b && true⟩) (by kernel_rfl) (by rw [h]; rfl)
theorem con_divF (a b : Mod) (nb : Nat) (h : tB b = false) : Con prog 118 [.agg (modL a), .agg (modL b)] nb (.agg (modL { dvM a b with r := dvR a b })) [] :=
  con_evF OX mixed (qs := [20]) (dec := [false]) (r := ⟨.agg (modL { dvM a b with r := dvR a b }), [], !tB b && true⟩) (by kernel_rfl) (by rw [h]; rfl)
theorem con_divM (a b : Mod) (nb : Nat) : Con prog 118 [.agg (modL a), .agg (modL b)] nb (.agg (modL (divM a b))) [] := by
  unfold divM
  cases h : divB b with
  | true => exact con_divT a b nb (by rw [tB_is]; exact h)
  | false => exact con_divF a b nb (by rw [tB_is]; exact h)

theorem con_rdivM (a b : Mod) (nb : Nat) : Con prog 166 [.agg (modL a), .agg (modL b)] nb (.agg (modL (divM a b))) [] := by
  unfold divM divB
  cases h : hold0 b.c0 with
  | true => exact con_evF OX mixed (qs := [13, 17]) (dec := [true, true]) (r := ⟨.agg (modL noneM), [], true && (hold0 b.c0 && true)⟩) (by kernel_rfl) (by rw [h]; rfl)
  | false =>
    cases h2 : hold0 (rangeV b) with
    | true => exact con_evF OX mixed (qs := [13, 17]) (dec := [false, true]) (r := ⟨.agg (modL noneM), [], hold0 (rangeV b) && (!hold0 b.c0 && true)⟩) (by kernel_rfl) (by rw [h, h2]; rfl)
    | false => exact con_evF OX mixed (qs := [13, 17]) (dec := [false, false]) (r := ⟨.agg (modL { dvM a b with r := dvR a b }), [], !hold0 (rangeV b) && (!hold0 b.c0 && true)⟩) (by kernel_rfl) (by rw [h, h2]; rfl)

def esD : List Entry := [eM2 118 divM, eM2 166 divM] ++ esM
theorem esD_ok : ∀ e ∈ esD, EntryOK prog e := by
  intro e he
  simp only [esD, List.cons_append, List.nil_append, List.mem_cons] at he
  rcases he with rfl | rfl | he
  · exact eM2_ok con_divM
  · exact eM2_ok con_rdivM
  · exact esM_ok e he
end Try
end Go.Eng

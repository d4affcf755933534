/- Engine, part 20: code evaluated along decisions; a function's contract out of its evaluation. Condition: the contracts that the evaluator leans on hold, the decisions are what the tests say. -/
import Derived.Test.YtcigcfneldipkaaE19
import Derived.LoopN
namespace Go.Eng
open Go Go.RowKit

inductive Ex where
  | normal | exit (id : Nat) | ret

def Ex.toExit : Ex → Exit
  | .normal => .normal
  | .exit id => .exit id
  | .ret => .ret

def iterC (f : St → Option (Ex × St)) : Nat → St → Option (Ex × St)
  | 0, _ => none
  | n + 1, s => match f s with
    | some (.normal, s1) => iterC f n s1
    | r => r

def litB (qs : List Nat) : Operand → Bool
  | .tmp t => !qs.elem t
  | _ => true

def evCode (C : Ctx) (nt : Nat) (qs : List Nat) (n : Nat) : Code → St → Option (Ex × St)
  | .skip, s => some (.normal, s)
  | .region _ ops draw, s => match evRegion C nt qs ops.toList draw s with
    | some s1 => some (.normal, s1)
    | none => none
  | .seq a b, s => match evCode C nt qs n a s with
    | some (.normal, s1) => evCode C nt qs n b s1
    | r => r
  | .cond c x y, s => match opd s.env c with
    | some (.bool b) => bif litB qs c then (bif b then evCode C nt qs n x s else evCode C nt qs n y s) else
      match s.dec with
      | v :: ds => bif v then evCode C nt qs n x ⟨s.env, s.heap, s.nx, ds, b && s.ok⟩ else evCode C nt qs n y ⟨s.env, s.heap, s.nx, ds, !b && s.ok⟩
      | [] => none
    | _ => none
  | .block id body, s => match evCode C nt qs n body s with
    | some (.exit j, s1) => bif Nat.beq j id then some (.normal, s1) else some (.exit j, s1)
    | r => r
  | .loop body, s => iterC (evCode C nt qs n body) n s
  | .exit id, s => some (.exit id, s)
  | .ret, s => some (.ret, s)
  | _, _ => none

section
variable {C : Ctx} {w0 : World} {nt : Nat} {qs : List Nat} {n : Nat}

/-- Code, run from where the evaluator stands, ends where the evaluator ends. -/
structure Goes (C : Ctx) (w0 : World) (nt : Nat) (c : Code) (s : St) (e : Ex) (s' : St) : Prop where
  of : ∀ {a : Act} {w : World}, RelS C.P w0 nt s a w → c.wp C.P (fun x a' w' => x = e.toExit ∧ RelS C.P w0 nt s' a' w') a w

theorem iterC_sound {c : Code} {f : St → Option (Ex × St)} (hf : ∀ s e s', f s = some (e, s') → s'.ok = true → s.ok = true ∧ Goes C w0 nt c s e s') : ∀ (m : Nat) (s s' : St) (e : Ex), iterC f m s = some (e, s') → s'.ok = true →
    s.ok = true ∧ e ≠ .normal ∧ ∀ {a : Act} {w : World}, RelS C.P w0 nt s a w → Code.rounds C.P c (fun x a' w' => x = e.toExit ∧ RelS C.P w0 nt s' a' w') m a w
  | 0, _, _, _, h, _ => by cases h
  | m + 1, s, s', e, h, hok => by
    simp only [iterC] at h
    split at h
    · rename_i s1 h1
      obtain ⟨g1, g2, g3⟩ := iterC_sound hf m s1 s' e h hok
      obtain ⟨k1, k2⟩ := hf s _ s1 h1 g1
      refine ⟨k1, g2, fun {a w} R => ?_⟩
      rw [rounds_succ]
      refine Go.wp_mono (k2.of R) fun x a' w' ⟨hx, hR⟩ => ?_
      subst hx
      exact g3 hR
    · rename_i r hr
      obtain ⟨k1, k2⟩ := hf s e s' h hok
      have hne : e ≠ .normal := fun h' => by subst h'; exact hr s' h
      refine ⟨k1, hne, fun {a w} R => ?_⟩
      rw [rounds_succ]
      refine Go.wp_mono (k2.of R) fun x a' w' ⟨hx, hR⟩ => ?_
      subst hx
      cases e with
      | normal => exact absurd rfl hne
      | exit id => exact ⟨rfl, hR⟩
      | ret => exact ⟨rfl, hR⟩

theorem evCode_sound (hO : OrcOK C.P C.orc) (hm : C.P.follows .mixedOrders = true) : ∀ (c : Code) (s s' : St) (e : Ex), evCode C nt qs n c s = some (e, s') → s'.ok = true → s.ok = true ∧ Goes C w0 nt c s e s' := by
  intro c
  induction c with
  | skip =>
    intro s s' e h hok
    cases h
    exact ⟨hok, ⟨fun R => wp_skip ⟨rfl, R⟩⟩⟩
  | region id ops draw =>
    intro s s' e h hok
    simp only [evCode] at h
    split at h
    · rename_i s1 h1
      cases h
      obtain ⟨g1, g2⟩ := evRegion_sound hO hm h1 hok (w0 := w0)
      refine ⟨g1, ⟨fun {a w} R => ?_⟩⟩
      have := g2 R (id := id) (Q := fun x a' w' => x = Ex.normal.toExit ∧ RelS C.P w0 nt s' a' w') fun a' w' hR => ⟨rfl, hR⟩
      simpa using this
    · cases h
  | seq x y ihx ihy =>
    intro s s' e h hok
    simp only [evCode] at h
    split at h
    · rename_i s1 h1
      obtain ⟨g1, g2⟩ := ihy s1 s' e h hok
      obtain ⟨k1, k2⟩ := ihx s s1 _ h1 g1
      refine ⟨k1, ⟨fun {a w} R => wp_seq (Go.wp_mono (k2.of R) fun z a' w' ⟨hz, hR⟩ => ?_)⟩⟩
      subst hz
      exact g2.of hR
    · rename_i r hr
      obtain ⟨k1, k2⟩ := ihx s s' e h hok
      have hne : e ≠ .normal := fun h' => by subst h'; exact hr s' h
      refine ⟨k1, ⟨fun {a w} R => wp_seq (Go.wp_mono (k2.of R) fun z a' w' ⟨hz, hR⟩ => ?_)⟩⟩
      subst hz
      cases e with
      | normal => exact absurd rfl hne
      | exit id => exact ⟨rfl, hR⟩
      | ret => exact ⟨rfl, hR⟩
  | cond c x y ihx ihy =>
    intro s s' e h hok
    simp only [evCode] at h
    split at h
    · rename_i b hb
      have hc : ∀ {a : Act} {w : World}, RelS C.P w0 nt s a w → a.eval c = .bool b := by
        intro a w R
        obtain ⟨⟨φ, im, RF, _⟩, _⟩ := R
        have := opd_V RF.rho hb
        generalize a.eval c = v at this
        cases this
        rfl
      cases hl : litB qs c with
      | true =>
        rw [hl] at h
        cases b with
        | true =>
          obtain ⟨g1, g2⟩ := ihx s s' e h hok
          exact ⟨g1, ⟨fun R => wp_cond_true (hc R) (g2.of R)⟩⟩
        | false =>
          obtain ⟨g1, g2⟩ := ihy s s' e h hok
          exact ⟨g1, ⟨fun R => wp_cond_false (hc R) (g2.of R)⟩⟩
      | false =>
        rw [hl] at h
        simp only [cond_false] at h
        split at h
        · rename_i v ds hd
          cases v with
          | true =>
            obtain ⟨g1, g2⟩ := ihx _ s' e h hok
            simp only [Bool.and_eq_true] at g1
            refine ⟨g1.2, ⟨fun {a w} R => wp_cond_true (by rw [hc R, g1.1]) (g2.of ⟨R.rel, R.fh⟩)⟩⟩
          | false =>
            obtain ⟨g1, g2⟩ := ihy _ s' e h hok
            simp only [Bool.and_eq_true] at g1
            have hbf : b = false := by simpa using g1.1
            refine ⟨g1.2, ⟨fun {a w} R => wp_cond_false (by rw [hc R, hbf]) (g2.of ⟨R.rel, R.fh⟩)⟩⟩
        · cases h
    · cases h
  | block id body ih =>
    intro s s' e h hok
    simp only [evCode] at h
    split at h
    · rename_i j s1 h1
      cases hj : Nat.beq j id with
      | true =>
        rw [hj] at h
        cases h
        obtain ⟨g1, g2⟩ := ih s s' _ h1 hok
        refine ⟨g1, ⟨fun {a w} R => wp_block (Go.wp_mono (g2.of R) fun z a' w' ⟨hz, hR⟩ => ?_)⟩⟩
        subst hz
        have : j = id := Nat.eq_of_beq_eq_true hj
        subst this
        simp only [Ex.toExit, Exit.inBlock, if_true]
        exact ⟨trivial, hR⟩
      | false =>
        rw [hj] at h
        cases h
        obtain ⟨g1, g2⟩ := ih s s' _ h1 hok
        refine ⟨g1, ⟨fun {a w} R => wp_block (Go.wp_mono (g2.of R) fun z a' w' ⟨hz, hR⟩ => ?_)⟩⟩
        subst hz
        have : j ≠ id := fun e => by subst e; simp at hj
        simp only [Ex.toExit, Exit.inBlock, if_neg this]
        exact ⟨trivial, hR⟩
    · rename_i r hr
      obtain ⟨g1, g2⟩ := ih s s' e h hok
      refine ⟨g1, ⟨fun {a w} R => wp_block (Go.wp_mono (g2.of R) fun z a' w' ⟨hz, hR⟩ => ?_)⟩⟩
      subst hz
      cases e with
      | exit j => exact absurd h (hr j s')
      | normal => exact ⟨rfl, hR⟩
      | ret => exact ⟨rfl, hR⟩
  | loop body ih =>
    intro s s' e h hok
    simp only [evCode] at h
    obtain ⟨g1, _, g3⟩ := iterC_sound (fun s e s' h hok => ih s s' e h hok) n s s' e h hok
    exact ⟨g1, ⟨fun R => wp_loop_rounds n (g3 R)⟩⟩
  | exit id =>
    intro s s' e h hok
    cases h
    exact ⟨hok, ⟨fun R => wp_exit ⟨rfl, R⟩⟩⟩
  | ret =>
    intro s s' e h hok
    cases h
    exact ⟨hok, ⟨fun R => wp_ret ⟨rfl, R⟩⟩⟩
  | _ => intro s s' e h hok; cases h
end

/-! ### A function's answer -/
def argsEnv (xs : List AV) : AEnv := fun t => xs[t]?

def St0 (xs : List AV) (dec : List Bool) : St := ⟨argsEnv xs, fun _ => none, 0, dec, true⟩

def AV.scal : AV → Bool
  | .undef | .bool _ | .int _ _ | .flt _ | .str _ | .nilp | .nils | .nilfn | .nilif => true
  | _ => false

/-- What is handed back, as who asked sees it: slices of one's own by what they hold. -/
def out1 (h : AHeap) : AV → Option (AV × Bool)
  | .slc i off len => match h i with
    | some b => some (.snap (b.cells.drop off) len, b.cells.all AV.scal)
    | none => none
  | .nils => some (.snap [] 0, true)
  | .agg cs => some (.agg cs, cs.all AV.scal)
  | .bool b => some (.bool b, true)
  | .int k n => some (.int k n, true)
  | .flt x => some (.flt x, true)
  | .str s => some (.str s, true)
  | .fn f [] [] => some (.fn f [] [], true)
  | _ => none

def resVar (P : Program) (s : St) : ResultVar → Option (AV × Bool)
  | .tmp t => match s.env t with
    | some x => some (x, true)
    | none => none
  | .cell a t => match s.env a with
    | some (.ptr i off) => match s.heap i with
      | some b => loadV P t b.cells off
      | none => none
    | _ => none

def resVars (P : Program) (s : St) : List ResultVar → Option (List AV × Bool)
  | [] => some ([], true)
  | r :: rs => match resVar P s r, resVars P s rs with
    | some (x, c), some (xs, cs) => some (x :: xs, c && cs)
    | _, _ => none

def one : List AV → AV
  | [x] => x
  | xs => .tup xs

def outs (h : AHeap) : List AV → Option (List AV × Bool)
  | [] => some ([], true)
  | x :: xs => match out1 h x, outs h xs with
    | some (y, c), some (ys, cs) => some (y :: ys, c && cs)
    | _, _ => none

/-- A function, evaluated: its answer, and what must hold. -/
def evFn (C : Ctx) (nt : Nat) (qs : List Nat) (fuel : Nat) (c : Code) (rs : List ResultVar) (xs : List AV) (dec : List Bool) : Option (AV × Bool) :=
  match evCode C nt qs fuel c (St0 xs dec) with
  | some (.exit _, _) => none
  | some (_, s) => match resVars C.P s rs with
    | some (ys, c1) => match outs s.heap ys with
      | some (zs, c2) => some (one zs, c1 && c2 && s.ok)
      | none => none
    | none => none
  | none => none

end Go.Eng

/- Engine, part 16: a region of operations evaluated in the order of the text; where the footprints allow it, every order comes to the same. Condition: the contracts that the evaluator leans on hold. -/
import Derived.Test.YtcigcfneldipkaaE15
import Derived.Orders
namespace Go.Eng
open Go Go.RowKit

def gdst (ops : List Oper) (j : Nat) : Option Nat := (ops[j]?).bind (·.dst)

def wantV (ops : List Oper) (env : AEnv) (o : Oper) : Option Bool :=
  match o.guard with
  | none => some true
  | some (j, want) => match gdst ops j with
    | some d => match env d with
      | some (.bool b) => some (b == want)
      | some .undef => some false
      | _ => none
    | none => none

def skipE : Eff := ⟨.undef, [], [], true⟩

def sOp (C : Ctx) (ops : List Oper) (env : AEnv) (h : AHeap) (n : Nat) (o : Oper) : Option Eff :=
  match wantV ops env o with
  | some true => evOp C env h n o
  | some false => some skipE
  | none => none

def updD (env : AEnv) (d : Option Nat) (x : AV) : AEnv :=
  match d with
  | some d => upd env d (some x)
  | none => env

/-- The frame stands to the abstract state. -/
structure RelF (P : Program) (w0 : World) (nt : Nat) (φ : Phi) (im : Im) (env : AEnv) (h : AHeap) (a : Act) (w : World) : Prop where
  hrep : HRep P w0.heap.size φ im h w
  env : ∀ t x, env t = some x → ∃ v, a.tmps[t]? = some v ∧ V im φ x v
  size : a.tmps.size = nt
  defers : a.defers = []
  below : Below w0.heap.size w0 w

theorem RelF.rho {P : Program} {w0 : World} {nt : Nat} {φ : Phi} {im : Im} {env : AEnv} {h : AHeap} {a : Act} {w : World} (R : RelF P w0 nt φ im env h a w) : ∀ t x, env t = some x → V im φ x (a.tmps.getD t undef) := by
  intro t x e
  obtain ⟨v, h1, h2⟩ := R.env t x e
  have : a.tmps.getD t undef = v := by
    rw [Array.getD_eq_getD_getElem?, h1]; rfl
  rw [this]
  exact h2

theorem RelF.put {P : Program} {w0 : World} {nt : Nat} {φ : Phi} {im : Im} {env : AEnv} {h : AHeap} {a : Act} {w : World} (R : RelF P w0 nt φ im env h a w) {dst : Option Nat} (hd : ∀ d, dst = some d → d < nt) {φ' : Phi} {im' : Im} {h' : AHeap} {w' : World} {x : AV} {v : Value}
    (hφ : Phi.le φ φ') (hi : Im.le im im') (hrep : HRep P w0.heap.size φ' im' h' w') (hb : Below w0.heap.size w w') (hv : V im' φ' x v) : RelF P w0 nt φ' im' (updD env dst x) h' (a.put dst v) w' := by
  refine ⟨hrep, ?_, ?_, ?_, R.below.trans hb⟩
  · intro t y e
    cases dst with
    | none =>
      obtain ⟨u, h1, h2⟩ := R.env t y e
      exact ⟨u, h1, h2.mono hφ hi⟩
    | some d =>
      have hdl := hd d rfl
      have hsz := R.size
      simp only [updD] at e
      by_cases htd : t = d
      · subst htd
        rw [upd_same] at e
        cases e
        exact ⟨v, by simp [Act.put, hsz, hdl], hv⟩
      · rw [upd_other _ _ _ htd] at e
        obtain ⟨u, h1, h2⟩ := R.env t y e
        refine ⟨u, ?_, h2.mono hφ hi⟩
        simp only [Act.put]
        rw [Array.getElem?_setIfInBounds_ne (Ne.symm htd)]
        exact h1
  · cases dst with
    | none => exact R.size
    | some d => simpa [Act.put] using R.size
  · cases dst <;> exact R.defers

section
variable {C : Ctx} {w0 : World} {nt : Nat} {φ : Phi} {im : Im} {env : AEnv} {h : AHeap} {a : Act} {w : World} {ops : List Oper} {n : Nat}

theorem wantV_sound {o : Oper} {b : Bool} (R : RelF C.P w0 nt φ im env h a w) (hw : wantV ops env o = some b) : Region.wanted o (yielded ops.toArray a.tmps) = b := by
  unfold wantV at hw
  unfold Region.wanted
  cases hg : o.guard with
  | none => rw [hg] at hw; cases hw; rfl
  | some p =>
    obtain ⟨j, want⟩ := p
    rw [hg] at hw
    dsimp only at hw ⊢
    cases hd : gdst ops j with
    | none => rw [hd] at hw; cases hw
    | some d =>
      rw [hd] at hw
      dsimp only at hw
      have hy : ∀ v, a.tmps[d]? = some v → yielded ops.toArray a.tmps j = (match some v with | some (.bool b) => some b | _ => none) := by
        intro v hv
        unfold yielded
        have : (ops.toArray[j]?).bind (·.dst) = some d := by simpa [gdst] using hd
        rw [this]
        simp only [Option.bind_some, hv]
        cases v <;> rfl
      split at hw
      · rename_i b' he
        cases hw
        obtain ⟨v, h1, h2⟩ := R.env _ _ he
        cases h2
        rw [hy _ h1]
        cases b' <;> cases want <;> rfl
      · rename_i he
        cases hw
        obtain ⟨v, h1, h2⟩ := R.env _ _ he
        cases h2
        rw [hy _ h1]
        cases want <;> rfl
      · cases hw

theorem sOp_sound (hO : OrcOK C.P C.orc) {o : Oper} {e : Eff} {i : Nat} (hi : ops[i]? = some o) (R : RelF C.P w0 nt φ im env h a w) (hd : ∀ d, o.dst = some d → d < nt)
    (hfresh : ∀ i, n ≤ i → i < n + 64 → φ i = none) (hfreshh : ∀ i, n ≤ i → i < n + 64 → h i = none) (hev : sOp C ops env h n o = some e) (hok : e.ok = true) {K : Act → World → Prop} {Q : Exit → Act → World → Prop}
    (hK : ∀ a' w' φ' im', Phi.le φ φ' → Im.le im im' → (∀ i, φ' i ≠ none → φ i ≠ none ∨ (n ≤ i ∧ i < n + 64)) → RelF C.P w0 nt φ' im' (updD env o.dst e.val) (updL h e.wr) a' w' → K a' w') : wpOp C.P ops.toArray Q i K a w := by
  unfold wpOp
  have hi' : ops.toArray[i]? = some o := by simpa using hi
  rw [hi']
  dsimp only
  unfold sOp at hev
  cases hw : wantV ops env o with
  | none => rw [hw] at hev; cases hev
  | some b =>
    rw [hw] at hev
    rw [wantV_sound R hw]
    cases b with
    | true =>
      rw [if_pos rfl]
      left
      exact evOp_sound hO R.hrep R.below.size R.rho hfresh hfreshh hev hok fun r w' φ' im' D =>
        hK _ _ φ' im' D.le D.iml D.news (R.put hd D.le D.iml D.hrep D.below D.val)
    | false =>
      rw [if_neg (by simp)]
      cases hev
      exact hK _ _ φ im (Phi.le_refl _) (Im.le_refl _) (fun i hi => .inl hi) (R.put hd (Phi.le_refl _) (Im.le_refl _) R.hrep (Below.refl _ _) (.undef _))

end

/-! ### What stands behind some of the operations -/
def dstAt (ops : List Oper) (k : Nat) : Option Nat := (ops[k]?).bind (·.dst)

def envAt (ops : List Oper) (ef : Nat → Eff) (env0 : AEnv) (S : Nat → Bool) : Nat → AEnv
  | 0 => env0
  | k + 1 => bif S k then updD (envAt ops ef env0 S k) (dstAt ops k) (ef k).val else envAt ops ef env0 S k

def heapAt (ef : Nat → Eff) (h0 : AHeap) (S : Nat → Bool) : Nat → AHeap
  | 0 => h0
  | k + 1 => bif S k then updL (heapAt ef h0 S k) (ef k).wr else heapAt ef h0 S k

section
variable {ops : List Oper} {ef : Nat → Eff} {env0 : AEnv} {h0 : AHeap} {S S' : Nat → Bool}

theorem updD_other {env : AEnv} {d : Option Nat} {x : AV} {t : Nat} (h : d ≠ some t) : updD env d x t = env t := by
  cases d with
  | none => rfl
  | some d => exact upd_other _ _ _ (fun e => h (by rw [e]))
theorem updD_same {env : AEnv} {x : AV} {t : Nat} : updD env (some t) x t = some x := upd_same _ _ _

theorem updL_other : ∀ {l : List (Nat × Option ABlk)} {h : AHeap} {i : Nat}, i ∉ l.map (·.1) → updL h l i = h i
  | [], _, _, _ => rfl
  | p :: ps, h, i, hi => by
    simp only [List.map_cons, List.mem_cons, not_or] at hi
    rw [updL, updL_other hi.2, upd_other _ _ _ hi.1]

theorem updL_same : ∀ {l : List (Nat × Option ABlk)} {h h' : AHeap} {i : Nat}, (i ∈ l.map (·.1) ∨ h i = h' i) → updL h l i = updL h' l i
  | [], _, _, _, hi => by rcases hi with hi | hi; simp at hi; exact hi
  | p :: ps, h, h', i, hi => by
    rw [updL, updL]
    apply updL_same
    by_cases hp : i = p.1
    · right; rw [hp, upd_same, upd_same]
    · rw [upd_other _ _ _ hp, upd_other _ _ _ hp]
      rcases hi with hi | hi
      · left; simpa [hp] using hi
      · exact .inr hi

theorem envAt_congr {t : Nat} : ∀ k, (∀ m, m < k → dstAt ops m = some t → S m = S' m) → envAt ops ef env0 S k t = envAt ops ef env0 S' k t
  | 0, _ => rfl
  | k + 1, h => by
    have ih := envAt_congr (t := t) k fun m hm => h m (by omega)
    simp only [envAt]
    by_cases hd : dstAt ops k = some t
    · rw [h k (by omega) hd]
      cases S' k with
      | true => simp only [cond_true]; rw [hd, updD_same, updD_same]
      | false => exact ih
    · cases S k <;> cases S' k <;> simp only [cond_true, cond_false] <;> (try rw [updD_other hd]) <;> (try rw [updD_other hd]) <;> exact ih

theorem heapAt_congr {i : Nat} : ∀ k, (∀ m, m < k → i ∈ (ef m).wr.map (·.1) → S m = S' m) → heapAt ef h0 S k i = heapAt ef h0 S' k i
  | 0, _ => rfl
  | k + 1, h => by
    have ih := heapAt_congr (i := i) k fun m hm => h m (by omega)
    simp only [heapAt]
    by_cases hd : i ∈ (ef k).wr.map (·.1)
    · rw [h k (by omega) hd]
      cases S' k with
      | true => simp only [cond_true]; exact updL_same (.inl hd)
      | false => exact ih
    · cases S k <;> cases S' k <;> simp only [cond_true, cond_false] <;> (try rw [updL_other hd]) <;> (try rw [updL_other hd]) <;> exact ih

/-- One more. -/
def plus (S : Nat → Bool) (i : Nat) : Nat → Bool := fun k => bif Nat.beq k i then true else S k
theorem plus_self (S : Nat → Bool) (i : Nat) : plus S i i = true := by simp [plus]
theorem plus_other (S : Nat → Bool) {i k : Nat} (h : k ≠ i) : plus S i k = S k := by
  have : Nat.beq k i = false := by
    cases e : Nat.beq k i with
    | false => rfl
    | true => exact absurd (Nat.eq_of_beq_eq_true e) h
  simp [plus, this]

theorem envAt_plus {i : Nat} (hS : S i = false) : ∀ k, i < k → (∀ m, i < m → m < k → S m = true → ∀ t, dstAt ops m = some t → dstAt ops i ≠ some t) →
    envAt ops ef env0 (plus S i) k = updD (envAt ops ef env0 S k) (dstAt ops i) (ef i).val := by
  intro k hk hno
  funext t
  by_cases ht : dstAt ops i = some t
  · rw [ht, updD_same]
    induction k with
    | zero => omega
    | succ k ih =>
      simp only [envAt]
      by_cases hki : k = i
      · subst hki
        rw [plus_self, ht]
        simp only [cond_true]
        exact updD_same
      · rw [plus_other S hki]
        have ih' := ih (by omega) fun m h1 h2 => hno m h1 (by omega)
        cases hSk : S k with
        | false => exact ih'
        | true =>
          simp only [cond_true]
          have : dstAt ops k ≠ some t := fun e => hno k (by omega) (by omega) hSk t e ht
          rw [updD_other this]
          exact ih'
  · rw [updD_other ht]
    exact envAt_congr k fun m _ hm => plus_other S (fun e => ht (by rw [← e]; exact hm))

theorem heapAt_plus {i : Nat} (hS : S i = false) : ∀ k, i < k → (∀ m, i < m → m < k → S m = true → ∀ x, x ∈ (ef m).wr.map (·.1) → x ∉ (ef i).wr.map (·.1)) →
    heapAt ef h0 (plus S i) k = updL (heapAt ef h0 S k) (ef i).wr := by
  intro k hk hno
  funext x
  by_cases hx : x ∈ (ef i).wr.map (·.1)
  · induction k with
    | zero => omega
    | succ k ih =>
      simp only [heapAt]
      by_cases hki : k = i
      · subst hki
        rw [plus_self, hS]
        simp only [cond_true, cond_false]
        exact updL_same (.inl hx)
      · rw [plus_other S hki]
        have ih' := ih (by omega) fun m h1 h2 => hno m h1 (by omega)
        cases hSk : S k with
        | false => exact ih'
        | true =>
          simp only [cond_true]
          have : x ∉ (ef k).wr.map (·.1) := fun e => hno k (by omega) (by omega) hSk x e hx
          rw [updL_other this, ih']
          exact updL_same (.inl hx)
  · rw [updL_other hx]
    exact heapAt_congr k fun m _ hm => plus_other S (fun e => hx (by rw [← e]; exact hm))
end
end Go.Eng

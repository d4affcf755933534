/- Engine, part 21: a function's contract out of its evaluation. Condition: the contracts that the evaluator leans on hold, the decisions are what the tests say. -/
import Derived.Test.YtcigcfneldipkaaE20
namespace Go.Eng
open Go Go.RowKit

def freshIm (base : Nat) (w : World) : Im := fun b => if b < base then none else imOf w b

section
variable {P : Program} {base : Nat} {φ : Phi} {im : Im} {h : AHeap} {w : World}

theorem scal_V {φ' : Phi} {im' : Im} {x : AV} {v : Value} (hx : V im φ x v) (hs : x.scal = true) : V im' φ' x v := by
  cases hx <;> first | (simp [AV.scal] at hs; done) | skip
  all_goals constructor <;> assumption

theorem scals_V {φ' : Phi} {im' : Im} : ∀ {xs : List AV} {vs : List Value}, VL im φ xs vs → xs.all AV.scal = true → VL im' φ' xs vs
  | _, _, .nil _, _ => .nil _
  | _, _, .cons _ x v xs vs h hs, hn => by
    simp only [List.all_cons, Bool.and_eq_true] at hn
    exact .cons _ _ _ _ _ (scal_V h hn.1) (scals_V hs hn.2)

theorem out1_sound (H : HRep P base φ im h w) {x y : AV} {c : Bool} {v : Value} (ho : out1 h x = some (y, c)) (hc : c = true) (hx : V im φ x v) : V (freshIm base w) (fun _ => none) y v := by
  subst hc
  unfold out1 at ho
  split at ho
  · rename_i i off len
    split at ho
    · rename_i b hb
      simp only [Option.some.injEq, Prod.mk.injEq] at ho
      obtain ⟨e1, e2⟩ := ho
      subst e1
      cases hx with
      | slc0 => exact .snape _ _ _ _
      | slc _ _ _ _ cap l hl hle hcap =>
        rcases H.own i b hb with ⟨a1, _⟩ | ⟨l', cs, a1, a2, a3, a4, a5, a6, a7⟩
        · rw [hl] at a1; cases a1
        rw [hl] at a1
        cases a1
        refine .snap _ _ _ l.blk off cap cs ((cs.toList.take b.cells.length).drop off) ?_ ?_ ((scals_V a7 e2).drop off) hle
        · unfold freshIm
          rw [if_neg (by omega)]
          exact imOf_of a2
        · rw [List.length_drop, List.drop_take]
    · cases ho
  · cases ho; cases hx; exact .snape _ _ _ _
  · simp only [Option.some.injEq, Prod.mk.injEq] at ho
    obtain ⟨e1, e2⟩ := ho
    subst e1
    cases hx with
    | agg _ _ cs' hv => exact .agg _ _ _ (scals_V hv e2)
  · cases ho; exact scal_V hx rfl
  · cases ho; exact scal_V hx rfl
  · cases ho; exact scal_V hx rfl
  · cases ho; exact scal_V hx rfl
  · cases ho
    exact (noOwn_V hx rfl : V im (fun _ => none) _ _) |> fun hh => by
      cases hh with
      | fn _ _ _ _ a' c' ha hc =>
        have e1 : a'.toList = [] := List.eq_nil_of_length_eq_zero (by rw [← ha.length]; rfl)
        have e2 : c'.toList = [] := List.eq_nil_of_length_eq_zero (by rw [← hc.length]; rfl)
        exact .fn _ _ [] [] a' c' (by rw [e1]; exact .nil _) (by rw [e2]; exact .nil _)
  · cases ho

theorem outs_sound (H : HRep P base φ im h w) : ∀ {xs ys : List AV} {c : Bool} {vs : List Value}, outs h xs = some (ys, c) → c = true → VL im φ xs vs → VL (freshIm base w) (fun _ => none) ys vs
  | [], ys, c, vs, ho, _, hv => by
    simp only [outs, Option.some.injEq, Prod.mk.injEq] at ho
    rw [← ho.1]
    cases hv
    exact .nil _
  | x :: xs, ys, c, vs, ho, hc, hv => by
    simp only [outs] at ho
    split at ho
    · rename_i y c1 ys' cs h1 h2
      cases ho
      simp only [Bool.and_eq_true] at hc
      cases hv with
      | cons _ _ v _ vs' hv1 hv2 => exact .cons _ _ _ _ _ (out1_sound H h1 hc.1 hv1) (outs_sound H h2 hc.2 hv2)
    · cases ho
end

section
variable {P : Program} {w0 : World} {nt : Nat}

def readRes (a : Act) : ResultVar → Sem Value
  | .tmp t => pure (a.tmps.getD t undef)
  | .cell b t => do loadVar t (← asAddr (a.tmps.getD b undef))

theorem resVar_sound {s : St} {a : Act} {w : World} {φ : Phi} {im : Im} (RF : RelF P w0 nt φ im s.env s.heap a w) {r : ResultVar} {x : AV} {c : Bool} (hr : resVar P s r = some (x, c)) (hc : c = true) :
    ∃ v, (readRes a r).run P w = .ok v w ∧ V im φ x v := by
  subst hc
  unfold resVar at hr
  unfold readRes
  cases r with
  | tmp t =>
    dsimp only at hr ⊢
    cases he : s.env t with
    | none => rw [he] at hr; cases hr
    | some y =>
      rw [he] at hr
      cases hr
      exact ⟨_, rfl, RF.rho t _ he⟩
  | cell b t =>
    dsimp only at hr ⊢
    split at hr
    · rename_i i off he
      split at hr
      · rename_i k hk
        have hp := RF.rho b _ he
        generalize a.tmps.getD b undef = pv at hp
        cases hp with
        | ptr _ _ _ l hl =>
          rcases RF.hrep.own i k hk with ⟨a1, _⟩ | ⟨l', cs, a1, a2, a3, a4, a5, a6, a7⟩
          · rw [hl] at a1; cases a1
          rw [hl] at a1
          cases a1
          obtain ⟨v, h1, h2⟩ := loadVar_exact (P := P) (w := w) hr rfl a7 l.blk 0 (fun j u hj => by
            rw [List.getElem?_take] at hj
            split at hj
            · rw [Nat.zero_add]
              unfold World.cell?
              simp only [a2, Option.isSome_none, Bool.false_eq_true, if_false]
              simpa using hj
            · cases hj)
          rw [Nat.zero_add] at h1
          exact ⟨v, by simp [asAddr, h1], h2⟩
      · cases hr
    · cases hr

theorem resVars_sound {s : St} {a : Act} {w : World} {φ : Phi} {im : Im} (RF : RelF P w0 nt φ im s.env s.heap a w) : ∀ {rs : List ResultVar} {xs : List AV} {c : Bool}, resVars P s rs = some (xs, c) → c = true →
    ∃ vs, (rs.mapM (readRes a)).run P w = .ok vs w ∧ VL im φ xs vs
  | [], xs, c, h, hc => by
    simp only [resVars, Option.some.injEq, Prod.mk.injEq] at h
    rw [← h.1]
    exact ⟨[], by simp, .nil _⟩
  | r :: rs, xs, c, h, hc => by
    simp only [resVars] at h
    split at h
    · rename_i x c1 xs' c2 h1 h2
      cases h
      simp only [Bool.and_eq_true] at hc
      obtain ⟨v, g1, g2⟩ := resVar_sound RF h1 hc.1
      obtain ⟨vs, g3, g4⟩ := resVars_sound RF h2 hc.2
      refine ⟨v :: vs, ?_, .cons _ _ _ _ _ g2 g4⟩
      rw [List.mapM_cons]
      simp only [Sem.run_bind, g1, Result.andThen_ok, g3, Sem.run_pure]
    · cases h

theorem one_sound {im : Im} {φ : Phi} {xs : List AV} {A : Array Value} (h : VL im φ xs A.toList) : V im φ (one xs) (if h : A.size = 1 then A[0] else .tuple A) := by
  have hl := h.length
  unfold one
  split
  · rename_i x
    have hs : A.size = 1 := by simpa using hl.symm
    rw [dif_pos hs]
    obtain ⟨v, h1, h2⟩ := h.get 0 x rfl
    have : A[0] = v := by
      have h3 : A[0]? = some v := by simpa using h1
      rw [Array.getElem?_eq_getElem (by omega)] at h3
      exact Option.some.inj h3
    rw [this]
    exact h2
  · rename_i hne
    have hs : ¬ A.size = 1 := fun e => by
      have : xs.length = 1 := by rw [hl]; simpa using e
      obtain ⟨x, rfl⟩ := List.length_eq_one_iff.1 this
      exact hne x rfl
    rw [dif_neg hs]
    exact .tup _ _ _ h

theorem run_callFunc {f : FuncId} {fn : Func} {c : Code} (hf : P.funcs[f]? = some fn) (hb : fn.body = some c) (hname : (fn.name == "runtime.NumGoroutine") = false) (args : Array Value) (w : World) : (callFunc f args).run P w = .ok (.enter f args) w := by
  have hn : ¬ fn.name = "runtime.NumGoroutine" := by simpa using hname
  unfold callFunc
  simp [program, Sem.run, hf, hb, hn]
end

section
variable {C : Ctx} {nt : Nat} {qs : List Nat} {fuel : Nat}

/-- Where a call begins. -/
theorem rel_start {im : Im} {w : World} {args : Array Value} {xs : List AV} (him : ∀ b cs, im b = some cs → ∃ e g, w.heap[b]? = some (.cells cs e g)) (hv : VL im (fun _ => none) xs args.toList) (hl : xs.length ≤ nt) (dec : List Bool) :
    RelS C.P w nt (St0 xs dec) { tmps := args ++ Array.replicate (nt - args.size) undef, defers := [] } w := by
  have hlen : xs.length = args.size := by simpa using hv.length
  refine ⟨⟨fun _ => none, im, ⟨⟨him, (fun i k e => by cases e), (fun i j k k' l l' e => by cases e)⟩, ?_, (by simp; omega), rfl, Below.refl _ _⟩, fun _ _ => rfl⟩, fun _ _ => rfl⟩
  intro t x e
  obtain ⟨v, h1, h2⟩ := hv.get t x e
  refine ⟨v, ?_, h2⟩
  have ht : t < args.size := by
    have := (List.getElem?_eq_some_iff.1 e).1
    omega
  show (args ++ Array.replicate (nt - args.size) undef)[t]? = some v
  rw [Array.getElem?_append_left ht]
  simpa using h1

theorem con_of (hO : OrcOK C.P C.orc) (hm : C.P.follows .mixedOrders = true) {f : FuncId} {fn : Func} {c : Code} (hf : C.P.funcs[f]? = some fn) (hb : fn.body = some c) (hname : (fn.name == "runtime.NumGoroutine") = false) (hnt : fn.ntmps = nt)
    {xs : List AV} (hl : xs.length ≤ nt) {dec : List Bool} {r : AV} {ok : Bool} (hev : evFn C nt qs fuel c fn.results.toList xs dec = some (r, ok)) (hok : ok = true) (n : Nat) : Con C.P f xs n r [] := by
  intro im w args him hv
  refine ⟨_, _, run_callFunc hf hb hname args w, .inr ⟨f, args, rfl, ?_⟩⟩
  have hstart := rel_start (C := C) him hv hl dec
  subst hok
  have main : ∀ (e : Ex) (s : St), evCode C nt qs fuel c (St0 xs dec) = some (e, s) → (e = .ret ∨ e = .normal) → (match resVars C.P s fn.results.toList with
      | some (ys, c1) => match outs s.heap ys with
        | some (zs, c2) => some (one zs, c1 && c2 && s.ok)
        | none => none
      | none => none) = some (r, true) → Calls C.P f args w fun e w' => ∃ v, e = .returned v ∧ Leaves C.P w n r [] v w' := by
    intro e s he hre hs
    split at hs
    · rename_i ys c1 hys
      split at hs
      · rename_i zs c2 hzs
        simp only [Option.some.injEq, Prod.mk.injEq, Bool.and_eq_true] at hs
        obtain ⟨hr, ⟨hc1, hc2⟩, hsok⟩ := hs
        obtain ⟨_, hgo⟩ := evCode_sound (w0 := w) hO hm c _ s e he hsok
        refine calls_of_wp hf hb ?_
        rw [hnt]
        refine Go.wp_mono (hgo.of hstart) fun x a' w' ⟨hx, hR⟩ => ?_
        obtain ⟨⟨φ, im', RF, _⟩, _⟩ := hR
        obtain ⟨vs, g1, g2⟩ := resVars_sound RF hys hc1
        have g3 := outs_sound RF.hrep hzs hc2 g2
        have hres : (results fn a'.tmps).run C.P w' = .ok (if h : vs.toArray.size = 1 then vs.toArray[0] else .tuple vs.toArray) w' := by
          have e : results fn a'.tmps = (do
            let vs ← fn.results.mapM (readRes a')
            return if h : vs.size = 1 then vs[0] else .tuple vs) := by
            unfold results
            congr 1
          rw [e, Array.mapM_eq_mapM_toList]
          simp only [Sem.run_bind, bind_map_left]
          rw [g1]
          rfl
        have hpost : ∃ v, (if h : vs.toArray.size = 1 then vs.toArray[0] else .tuple vs.toArray : Value) = v ∧ Leaves C.P w n r [] v w' := by
          refine ⟨_, rfl, fun _ => none, freshIm w.heap.size w', RF.below, fun i hi => absurd rfl hi, ?_, ?_, ?_⟩
          · intro b cs hb
            unfold freshIm at hb
            split at hb
            · cases hb
            · omega
          · refine ⟨?_, fun i k e => (by cases e), fun i j k k' l l' e => (by cases e)⟩
            intro b cs hb
            unfold freshIm at hb
            split at hb
            · cases hb
            · exact imOf_is hb
          · rw [← hr]
            exact one_sound (by simpa using g3)
        obtain ⟨v, hv1, hv2⟩ := hpost
        rcases hre with rfl | rfl
        · subst hx
          exact ⟨RF.defers, v, by rw [hres, hv1], v, rfl, hv2⟩
        · subst hx
          exact ⟨RF.defers, v, by rw [hres, hv1], v, rfl, hv2⟩
      · cases hs
    · cases hs
  unfold evFn at hev
  split at hev
  · cases hev
  · rename_i e s hne he
    refine main e s he ?_ hev
    cases e with
    | ret => exact .inl rfl
    | normal => exact .inr rfl
    | exit j => exact absurd rfl (hne j)
  · cases hev
end
end Go.Eng

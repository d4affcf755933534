/- Engine, part 15: an operation answers alike wherever what it looks at is alike. No condition. -/
import Derived.Test.YtcigcfneldipkaaE14
namespace Go.Eng
open Go Go.RowKit

section
variable {C : Ctx} {env env' : AEnv} {h h' : AHeap} {n : Nat}

theorem opds_congr : ∀ {xs : List Operand}, (∀ x ∈ xs, opd env' x = opd env x) → opds env' xs = opds env xs
  | [], _ => rfl
  | x :: xs, hx => by
    simp only [opds]
    rw [hx x (by simp), opds_congr fun y hy => hx y (by simp [hy])]

theorem partsV_congr : ∀ {xs : List (Nat × Operand)}, (∀ x ∈ xs.map (·.2), opd env' x = opd env x) → partsV env' xs = partsV env xs
  | [], _ => rfl
  | (i, x) :: xs, hx => by
    simp only [partsV]
    rw [hx x (by simp), partsV_congr fun y hy => hx y (by simp only [List.map_cons, List.mem_cons]; exact .inr hy)]

theorem optOpd_congr {x : Option Operand} (hx : ∀ y ∈ x.toList, opd env' y = opd env y) : optOpd env' x = optOpd env x := by
  cases x with
  | none => rfl
  | some x => simp only [optOpd]; rw [hx x (by simp)]

theorem evOp_env {o : Oper} (hx : ∀ x ∈ o.op.operands.toList, opd env' x = opd env x) : evOp C env' h n o = evOp C env h n o := by
  unfold evOp
  cases hop : o.op <;> rw [hop] at hx <;> simp only [Op.operands] at hx <;> try rfl
  case move x => simp only [hx x (by simp)]
  case assign x => simp only [hx x (by simp)]
  case pick c a b => simp only [hx c (by simp), hx a (by simp), hx b (by simp)]
  case box t x => simp only [hx x (by simp)]
  case build t ps => simp only [partsV_congr (xs := ps.toList) (by simpa using hx)]
  case buildSlice t l ps => simp only [partsV_congr (xs := ps.toList) (by simpa using hx)]
  case load t a => simp only [hx a (by simp)]
  case store t a x => simp only [hx a (by simp), hx x (by simp)]
  case binOp op t x y ty => simp only [hx x (by simp), hx y (by simp)]
  case unOp op t x => simp only [hx x (by simp)]
  case convert s d x => simp only [hx x (by simp)]
  case makeFunc fn first cap =>
    have h1 := opds_congr (env := env) (env' := env') (xs := first.toList) fun x hx' => hx x (by simp at hx' ⊢; exact .inl hx')
    have h2 := opds_congr (env := env) (env' := env') (xs := cap.toList) fun x hx' => hx x (by simp at hx' ⊢; exact .inr hx')
    cases fn <;> first | rfl | simp only [h1, h2]
  case makeSlice t l c => simp only [hx l (by simp), hx c (by simp)]
  case slice t x lo hi mx =>
    have e1 := hx x (by simp)
    have e2 := optOpd_congr (env := env) (env' := env') (x := lo) fun y hy => hx y (by simp at hy ⊢; exact .inr (.inl hy))
    have e3 := optOpd_congr (env := env) (env' := env') (x := hi) fun y hy => hx y (by simp at hy ⊢; exact .inr (.inr (.inl hy)))
    have e4 := optOpd_congr (env := env) (env' := env') (x := mx) fun y hy => hx y (by simp at hy ⊢; exact .inr (.inr (.inr hy)))
    simp only [e1, e2, e3, e4]
  case fieldAddr s x f => simp only [hx x (by simp)]
  case field s x f => simp only [hx x (by simp)]
  case indexAddr t x i => simp only [hx x (by simp), hx i (by simp)]
  case index t x i => simp only [hx x (by simp), hx i (by simp)]
  case extract t ix => simp only [hx t (by simp)]
  case call c =>
    have h1 := opds_congr (env := env) (env' := env') (xs := c.args.toList) fun x hx' => hx x (by simp [Call.operands] at hx' ⊢; exact .inr hx')
    cases hcal : c.callee with
    | value f => simp only [hcal, hx f (by simp [Call.operands, hcal]), h1]
    | invoke r m => simp only [hcal]
    | builtin b => cases b <;> first | (simp only [hcal]; done) | simp only [hcal, h1]

theorem conv_heap (deep : Bool) : ∀ d, (∀ x c, conv h deep d x = some c → (∀ i ∈ c.rd, h' i = h i) → conv h' deep d x = some c) ∧
    (∀ xs cs rd ok, convL h deep d xs = some (cs, rd, ok) → (∀ i ∈ rd, h' i = h i) → convL h' deep d xs = some (cs, rd, ok)) := by
  intro d
  induction d with
  | zero => exact ⟨fun x c h => by simp [conv] at h, fun xs cs rd ok h => by simp [convL] at h⟩
  | succ d ih =>
    constructor
    · intro x c hc hr
      cases x <;> simp only [conv] at hc ⊢ <;> first | (cases hc; done) | exact hc | skip
      case slc i off len =>
        cases hb : h i with
        | none => rw [hb] at hc; cases hc
        | some b =>
          rw [hb] at hc
          have hi : i ∈ c.rd := by
            cases deep with
            | false => cases hc; simp
            | true =>
              simp only [cond_true] at hc
              split at hc
              · cases hc; simp
              · cases hc
          rw [hr i hi, hb]
          cases deep with
          | false => exact hc
          | true =>
            simp only [cond_true] at hc ⊢
            split at hc
            · rename_i cs rd ok hcl
              cases hc
              rw [ih.2 _ _ _ _ hcl fun j hj => hr j (by simp [hj])]
            · cases hc
      case ptr i off =>
        cases hb : h i with
        | none => rw [hb] at hc; cases hc
        | some b =>
          rw [hb] at hc
          have hi : i ∈ c.rd := by
            cases deep with
            | false => cases hc; simp
            | true =>
              simp only [cond_true] at hc
              split at hc
              · cases hc; simp
              · cases hc
          rw [hr i hi, hb]
          cases deep with
          | false => exact hc
          | true =>
            simp only [cond_true] at hc ⊢
            split at hc
            · rename_i cs rd ok hcl
              cases hc
              rw [ih.2 _ _ _ _ hcl fun j hj => hr j (by simp [hj])]
            · cases hc
      case agg cs =>
        split at hc
        · rename_i cs' rd ok hcl
          cases hc
          rw [ih.2 _ _ _ _ hcl hr]
        · cases hc
      case fn f a c' =>
        split at hc
        · rename_i a' r1 o1 c2 r2 o2 h1 h2
          cases hc
          rw [ih.2 _ _ _ _ h1 fun j hj => hr j (by simp [hj]), ih.2 _ _ _ _ h2 fun j hj => hr j (by simp [hj])]
        · cases hc
    · intro xs cs rd ok hc hr
      cases xs with
      | nil => exact hc
      | cons x xs =>
        simp only [convL] at hc ⊢
        split at hc
        · rename_i c cs' rd' ok' h1 h2
          cases hc
          rw [ih.1 _ _ h1 fun j hj => hr j (by simp [hj]), ih.2 _ _ _ _ h2 fun j hj => hr j (by simp [hj])]
        · cases hc

theorem loadOp_heap {P : Program} {t : TypeId} {a : AV} {e : Eff} (hl : loadOp P t a h = some e) (hr : ∀ i ∈ e.rd, h' i = h i) : loadOp P t a h' = some e := by
  unfold loadOp at *
  split at hl
  · rename_i i off
    have hi : i ∈ e.rd := by
      split at hl
      · split at hl
        · cases hl; simp
        · cases hl
      · cases hl
    simp only [hr i hi]
    exact hl
  · exact hl
  · cases hl

theorem storeOp_heap {P : Program} {t : TypeId} {a x : AV} {e : Eff} (hl : storeOp P t a x h = some e) (hr : ∀ i ∈ e.rd, h' i = h i) : storeOp P t a x h' = some e := by
  unfold storeOp at *
  split at hl
  · rename_i i off
    have hi : i ∈ e.rd := by
      split at hl
      · cases hz : (Nat.beq x.cells.length (esz P t) && Nat.blt 0 (esz P t)) with
        | false => rw [hz] at hl; cases hl
        | true => rw [hz] at hl; cases hl; simp
      · cases hl
    simp only [hr i hi]
    exact hl
  · cases hl

theorem srcV_heap {size : Nat} {x : AV} {news : List AV} {m : Nat} {rd : List Nat} {c : Bool} (hs : srcV size h x = some (news, m, rd, c)) (hr : ∀ i ∈ rd, h' i = h i) : srcV size h' x = some (news, m, rd, c) := by
  unfold srcV at *
  split at hs
  · exact hs
  · exact hs
  · rename_i k o m'
    split at hs
    · rename_i b hb
      have hk : k ∈ rd := by
        simp only [Option.some.injEq, Prod.mk.injEq] at hs
        rw [← hs.2.2.1]; simp
      simp only [hr k hk, hb]
      exact hs
    · cases hs
  · cases hs

theorem appendV_heap {P : Program} {t : TypeId} {s x : AV} {e : Eff} (ha : appendV P t s x h n = some e) (hr : ∀ i ∈ e.rd, h' i = h i) : appendV P t s x h' n = some e := by
  unfold appendV at *
  split at ha
  · cases ha
  · rename_i el hel
    split at ha
    · rename_i i z hi hz
      cases hc : (Nat.beq z.cells.length i.size && Nat.blt 0 i.size) with
      | false => rw [hc] at ha; cases ha
      | true =>
        rw [hc] at ha
        simp only [cond_true] at ha
        simp only [cond_true]
        split at ha
        · cases ha
        · rename_i news m rd c hsrc
          split at ha
          · cases ha
            rw [srcV_heap hsrc hr]
          · rename_i k o len
            split at ha
            · rename_i b hb
              cases hoe : (Nat.beq o 0 && decide (b.ety = el)) with
              | false => rw [hoe] at ha; cases ha
              | true =>
                rw [hoe] at ha
                cases ha
                rw [srcV_heap hsrc fun j hj => hr j (by simp [hj])]
                dsimp only
                rw [hr k (by simp), hb]
                dsimp only
                rw [hoe]
                rfl
            · cases ha
          · cases ha
    · cases ha

theorem callV_heap {f : AV} {args : List AV} {e : Eff} (hc : callV C h n f args = some e) (hr : ∀ i ∈ e.rd, h' i = h i) : callV C h' n f args = some e := by
  unfold callV at *
  split at hc
  · rename_i g first cap
    split at hc
    · rename_i xs rd ok hcv
      split at hc
      · rename_i r hro
        cases hl : Nat.ble r.blks.length 64 with
        | false => rw [hl] at hc; cases hc
        | true =>
          rw [hl] at hc
          cases hc
          rw [(conv_heap (C.deep g) 64).2 _ _ _ _ hcv hr]
          dsimp only
          rw [hro]
          dsimp only
          rw [hl]
          rfl
      · cases hc
    · cases hc
  · cases hc

theorem evOp_heap {o : Oper} {e : Eff} (hev : evOp C env h n o = some e) (hr : ∀ i ∈ e.rd, h' i = h i) : evOp C env h' n o = some e := by
  unfold evOp at *
  cases hop : o.op <;> rw [hop] at hev <;> first | exact hev | (dsimp only at hev ⊢) | skip
  case makeFunc fn a b => cases fn <;> exact hev
  case load t a =>
    split at hev
    · exact loadOp_heap hev hr
    · cases hev
  case store t a x =>
    split at hev
    · exact storeOp_heap hev hr
    · cases hev
  case call c =>
    cases hcal : c.callee <;> rw [hcal] at hev <;> first | exact hev | (dsimp only at hev ⊢) | skip
    case value f =>
      split at hev
      · exact callV_heap hev hr
      · cases hev
    case builtin b =>
      cases b <;> first | exact hev | (dsimp only at hev ⊢) | skip
      case append =>
        split at hev
        · rename_i s x t t' _ _
          cases htt : Nat.beq t t' with
          | false => rw [htt] at hev; cases hev
          | true =>
            rw [htt] at hev
            exact appendV_heap hev hr
        · cases hev

end
end Go.Eng

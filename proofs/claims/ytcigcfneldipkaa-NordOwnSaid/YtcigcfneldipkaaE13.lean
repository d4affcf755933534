/- Engine, part 13: one operation evaluated, and its soundness. Condition: the contracts that the evaluator leans on hold. -/
import Derived.Test.YtcigcfneldipkaaE12
namespace Go.Eng
open Go Go.RowKit

def opd (env : AEnv) : Operand → Option AV
  | .tmp t => env t
  | .const v => ofConst v
  | .func f => some (.fn f [] [])
  | .global _ => none

def opds (env : AEnv) : List Operand → Option (List AV)
  | [] => some []
  | x :: xs => match opd env x, opds env xs with
    | some v, some vs => some (v :: vs)
    | _, _ => none

def optOpd (env : AEnv) : Option Operand → Option (Option AV)
  | none => some none
  | some x => match opd env x with
    | some v => some (some v)
    | none => none

def partsV (env : AEnv) : List (Nat × Operand) → Option (List (Nat × AV))
  | [] => some []
  | (i, x) :: xs => match opd env x, partsV env xs with
    | some v, some vs => some ((i, v) :: vs)
    | _, _ => none

def wrs (n : Nat) : List ABlk → List (Nat × Option ABlk)
  | [] => []
  | b :: bs => (n, some b) :: wrs (n + 1) bs

def callV (C : Ctx) (h : AHeap) (n : Nat) (f : AV) (args : List AV) : Option Eff :=
  match f with
  | .fn g first cap => match convL h (C.deep g) 64 (first ++ args ++ cap) with
    | some (xs, rd, ok) => match C.orc g xs n with
      | some r => bif Nat.ble r.blks.length 64 then some ⟨r.val, wrs n r.blks, rd, ok && r.ok⟩ else none
      | none => none
    | none => none
  | _ => none

def lenV (P : Program) (t : TypeId) (x : AV) : Option Eff :=
  match P.underlying t, x with
  | some (.slice _), .slc _ _ len => pur (.int .i64 len)
  | some (.slice _), .snap _ len => pur (.int .i64 len)
  | some (.slice _), .nils => pur (.int .i64 0)
  | some .string, .str s => pur (.int .i64 s.size)
  | _, _ => none

def evOp (C : Ctx) (env : AEnv) (h : AHeap) (n : Nat) (o : Oper) : Option Eff :=
  match o.op with
  | .move x => (opd env x).bind pur
  | .assign x => (opd env x).bind pur
  | .pick c a b => match opd env c with
    | some (.bool d) => (bif d then opd env a else opd env b).bind pur
    | _ => none
  | .alloc t => allocV C.P t n
  | .box t x => match opd env x with
    | some v => boxV C.P t v n
    | none => none
  | .build t parts => match partsV env parts.toList with
    | some ps => buildV C.P t ps
    | none => none
  | .buildSlice t len parts => match partsV env parts.toList with
    | some ps => buildSliceV C.P t len ps n
    | none => none
  | .load t a => match opd env a with
    | some v => loadOp C.P t v h
    | none => none
  | .store t a x => match opd env a, opd env x with
    | some va, some vx => storeOp C.P t va vx h
    | _, _ => none
  | .binOp op t x y _ => match opd env x, opd env y with
    | some vx, some vy => binV C.P op t vx vy
    | _, _ => none
  | .unOp op _ x => match opd env x with
    | some vx => unV op vx
    | none => none
  | .convert s d x => match opd env x with
    | some vx => convV C.P s d vx
    | none => none
  | .makeFunc (.func f) first cap => match opds env first.toList, opds env cap.toList with
    | some a, some c => pur (.fn f a c)
    | _, _ => none
  | .makeSlice t l c => match opd env l, opd env c with
    | some vl, some vc => makeV C.P t vl vc n
    | _, _ => none
  | .slice t x lo hi mx => match opd env x, optOpd env lo, optOpd env hi, optOpd env mx with
    | some vx, some l, some hh, some m => sliceV C.P t vx l hh m
    | _, _, _, _ => none
  | .fieldAddr s x f => match opd env x with
    | some vx => fieldAddrV C.P s vx f
    | none => none
  | .field s x f => match opd env x with
    | some vx => fieldV C.P s vx f
    | none => none
  | .indexAddr t x i => match opd env x, opd env i with
    | some vx, some vi => indexAddrV C.P t vx vi
    | _, _ => none
  | .index t x i => match opd env x, opd env i with
    | some vx, some vi => indexV C.P t vx vi
    | _, _ => none
  | .extract t ix => match opd env t with
    | some (.tup vs) => (vs[ix]?).bind pur
    | _ => none
  | .call c => match c.callee with
    | .value f => match opd env f, opds env c.args.toList with
      | some vf, some vs => callV C h n vf vs
      | _, _ => none
    | .builtin .len => match opds env c.args.toList, c.argTypes.toList with
      | some [x], [t] => lenV C.P t x
      | _, _ => none
    | .builtin .append => match opds env c.args.toList, c.argTypes.toList with
      | some [s, x], [t, t'] => bif Nat.beq t t' then appendV C.P t s x h n else none
      | _, _ => none
    | .builtin .min => match opds env c.args.toList with
      | some [.int k a, .int _ b] => pur (.int k (if b < a then b else a))
      | _ => none
    | .builtin .max => match opds env c.args.toList with
      | some [.int k a, .int _ b] => pur (.int k (if b > a then b else a))
      | _ => none
    | _ => none
  | _ => none

/-- What an operation has done, in a frame where more may have become known of what does not change. -/
structure DidX (P : Program) (base : Nat) (φ : Phi) (im : Im) (h : AHeap) (w : World) (lo hi : Nat) (e : Eff) (r : Value) (w' : World) (φ' : Phi) (im' : Im) : Prop where
  le : Phi.le φ φ'
  iml : Im.le im im'
  news : ∀ i, φ' i ≠ none → φ i ≠ none ∨ (lo ≤ i ∧ i < hi)
  hrep : HRep P base φ' im' (updL h e.wr) w'
  below : Below base w w'
  val : V im' φ' e.val r

theorem Did.x {P : Program} {base : Nat} {φ : Phi} {im : Im} {h : AHeap} {w : World} {lo hi : Nat} {e : Eff} {r : Value} {w' : World} {φ' : Phi} (D : Did P base φ im h w lo hi e r w' φ') : DidX P base φ im h w lo hi e r w' φ' im :=
  ⟨D.le, Im.le_refl _, D.news, D.hrep, D.below, D.val⟩

section
variable {P : Program} {base : Nat} {φ : Phi} {im : Im} {h : AHeap} {w : World} {lo hi : Nat}

theorem conv_sound (H : HRep P base φ im h w) (deep : Bool) : ∀ d, (∀ x c v, conv h deep d x = some c → c.ok = true → V im φ x v → V (imOf w) (fun _ => none) c.val v) ∧
    (∀ xs cs rd ok vs, convL h deep d xs = some (cs, rd, ok) → ok = true → VL im φ xs vs → VL (imOf w) (fun _ => none) cs vs) := by
  have hle := H.im_le
  intro d
  induction d with
  | zero => exact ⟨fun x c v h => by simp [conv] at h, fun xs cs rd ok vs h => by simp [convL] at h⟩
  | succ d ih =>
    constructor
    · intro x c v hc hok hv
      cases x <;> simp only [conv] at hc <;> first | (cases hc; done) | skip
      case slc i off len =>
        cases hb : h i with
        | none => rw [hb] at hc; cases hc
        | some b =>
          rw [hb] at hc
          cases deep with
          | false =>
            cases hc
            exact own_snap H hb hv rfl fun vs hvs => (noOwns_V hvs hok).mono (fun _ _ e => e) hle
          | true =>
            simp only [cond_true] at hc
            cases hcl : convL h true d b.cells with
            | none => rw [hcl] at hc; cases hc
            | some p =>
              obtain ⟨cs, rd, ok⟩ := p
              rw [hcl] at hc
              cases hc
              have hlen : ∀ vs, VL im φ b.cells vs → VL (imOf w) (fun _ => none) cs vs := fun vs hvs => ih.2 _ _ _ _ vs hcl hok hvs
              rcases H.own i b hb with ⟨_, a2⟩ | ⟨l', cs', a1, a2, a3, a4, a5, a6, a7⟩
              · have h0 := hlen [] (by rw [a2]; exact .nil _)
                exact own_snap H hb hv (by have := h0.length; rw [a2]; simpa using this) hlen
              · exact own_snap H hb hv (by rw [(hlen _ a7).length, ← a7.length]) hlen
      case ptr i off =>
        cases hb : h i with
        | none => rw [hb] at hc; cases hc
        | some b =>
          rw [hb] at hc
          cases deep with
          | false =>
            cases hc
            exact own_sptr H hb hv rfl fun vs hvs => (noOwns_V hvs hok).mono (fun _ _ e => e) hle
          | true =>
            simp only [cond_true] at hc
            cases hcl : convL h true d b.cells with
            | none => rw [hcl] at hc; cases hc
            | some p =>
              obtain ⟨cs, rd, ok⟩ := p
              rw [hcl] at hc
              cases hc
              have hlen : ∀ vs, VL im φ b.cells vs → VL (imOf w) (fun _ => none) cs vs := fun vs hvs => ih.2 _ _ _ _ vs hcl hok hvs
              rcases H.own i b hb with ⟨_, a2⟩ | ⟨l', cs', a1, a2, a3, a4, a5, a6, a7⟩
              · have h0 := hlen [] (by rw [a2]; exact .nil _)
                exact own_sptr H hb hv (by have := h0.length; rw [a2]; simpa using this) hlen
              · exact own_sptr H hb hv (by rw [(hlen _ a7).length, ← a7.length]) hlen
      case agg cs =>
        cases hcl : convL h deep d cs with
        | none => rw [hcl] at hc; cases hc
        | some p =>
          obtain ⟨cs', rd, ok⟩ := p
          rw [hcl] at hc
          cases hc
          cases hv with
          | agg _ _ cs2 hv => exact .agg _ _ _ (ih.2 _ _ _ _ _ hcl hok hv)
      case fn f a c =>
        cases h1 : convL h deep d a with
        | none => rw [h1] at hc; cases hc
        | some p =>
          cases h2 : convL h deep d c with
          | none => rw [h1, h2] at hc; cases hc
          | some q =>
            obtain ⟨a', r1, o1⟩ := p
            obtain ⟨c', r2, o2⟩ := q
            rw [h1, h2] at hc
            cases hc
            simp only [Bool.and_eq_true] at hok
            cases hv with
            | fn _ _ _ _ a2 c2 ha hc2 => exact .fn _ _ _ _ _ _ (ih.2 _ _ _ _ _ h1 hok.1 ha) (ih.2 _ _ _ _ _ h2 hok.2 hc2)
      all_goals
        cases hc
        exact (noOwn_V hv rfl).mono (fun _ _ e => e) hle
    · intro xs cs rd ok vs hc hok hv
      cases xs with
      | nil => simp only [convL, Option.some.injEq, Prod.mk.injEq] at hc; obtain ⟨e1, _, _⟩ := hc; subst e1; cases hv; exact .nil _
      | cons x xs =>
        simp only [convL] at hc
        cases h1 : conv h deep d x with
        | none => rw [h1] at hc; cases hc
        | some c =>
          cases h2 : convL h deep d xs with
          | none => rw [h1, h2] at hc; cases hc
          | some p =>
            obtain ⟨cs', rd', ok'⟩ := p
            rw [h1, h2] at hc
            cases hc
            simp only [Bool.and_eq_true] at hok
            cases hv with
            | cons _ _ v _ vs' hv1 hv2 => exact .cons _ _ _ _ _ (ih.1 _ _ _ h1 hok.1 hv1) (ih.2 _ _ _ _ _ h2 hok.2 hv2)

theorem heapL_none (n : Nat) : ∀ (N : List ABlk) (i : Nat), i < n ∨ n + N.length ≤ i → heapL n N i = none
  | [], _, _ => rfl
  | b :: bs, i, hi => by
    simp only [heapL, List.length_cons] at *
    rw [upd_other _ _ _ (by omega)]
    exact heapL_none (n + 1) bs i (by omega)

theorem updL_wrs (h : AHeap) (n : Nat) : ∀ (N : List ABlk) (i : Nat), updL h (wrs n N) i = match heapL n N i with | some b => some b | none => h i := by
  intro N
  induction N generalizing h n with
  | nil => intro i; rfl
  | cons b bs ih =>
    intro i
    simp only [wrs, updL, heapL]
    rw [ih]
    by_cases hi : i = n
    · subst hi
      rw [upd_same, heapL_none (i + 1) bs i (by omega)]
      dsimp only
      rw [upd_same]
    · rw [upd_other _ _ _ hi, upd_other _ _ _ hi]

/-- Behind a call: what was there, and what is handed over. -/
theorem call_did (H : HRep P base φ im h w) (hbase : base ≤ w.heap.size) {n : Nat} (hfresh : ∀ i, n ≤ i → i < n + 64 → φ i = none) (hfreshh : ∀ i, n ≤ i → i < n + 64 → h i = none) {r : AV} {N : List ABlk} (hN : N.length ≤ 64) {v : Value} {w' : World} (hl : Leaves P w n r N v w') (rd : List Nat) (ok : Bool) :
    ∃ φ' im', DidX P base φ im h w n (n + 64) ⟨r, wrs n N, rd, ok⟩ v w' φ' im' := by
  obtain ⟨φ1, im1, hbel, hids, him, hrep, hv⟩ := hl
  let φ' : Phi := fun i => if n ≤ i ∧ i < n + 64 then φ1 i else φ i
  let im' : Im := fun b => if b < w.heap.size then im b else im1 b
  have hφ : Phi.le φ φ' := fun i l e => by
    show (if n ≤ i ∧ i < n + 64 then φ1 i else φ i) = some l
    rw [if_neg]
    · exact e
    · rintro ⟨g1, g2⟩; rw [hfresh i g1 g2] at e; cases e
  have hφ1 : Phi.le φ1 φ' := fun i l e => by
    show (if n ≤ i ∧ i < n + 64 then φ1 i else φ i) = some l
    rw [if_pos (hids i (by rw [e]; simp))]
    exact e
  have him0 : Im.le im im' := fun b cs e => by
    show (if b < w.heap.size then im b else im1 b) = some cs
    rw [if_pos (H.lt_im e)]
    exact e
  have him1 : Im.le im1 im' := fun b cs e => by
    show (if b < w.heap.size then im b else im1 b) = some cs
    rw [if_neg (by have := him b cs e; omega)]
    exact e
  have hold : ∀ b o, w.heap[b]? = some o → w'.heap[b]? = some o := fun b o e => by rw [hbel.block b (Array.getElem?_eq_some_iff.1 e).1]; exact e
  have hlt : ∀ b o, w.heap[b]? = some o → b < w.heap.size := fun b o e => (Array.getElem?_eq_some_iff.1 e).1
  -- which blocks there are
  have cases_h : ∀ i k, updL h (wrs n N) i = some k → (heapL n N i = some k ∧ n ≤ i ∧ i < n + 64) ∨ (h i = some k ∧ heapL n N i = none) := by
    intro i k e
    rw [updL_wrs] at e
    cases hh : heapL n N i with
    | none => rw [hh] at e; exact .inr ⟨e, rfl⟩
    | some b =>
      rw [hh] at e
      refine .inl ⟨e, ?_⟩
      rcases Nat.lt_or_ge i n with g | g
      · rw [heapL_none n N i (.inl g)] at hh; cases hh
      · rcases Nat.lt_or_ge i (n + N.length) with g' | g'
        · omega
        · rw [heapL_none n N i (.inr g')] at hh; cases hh
  refine ⟨φ', im', hφ, him0, ?_, ?_, hbel.mono hbase, hv.mono hφ1 him1⟩
  · intro i hi
    by_cases hin : n ≤ i ∧ i < n + 64
    · exact .inr hin
    · left
      have : φ' i = φ i := by show (if n ≤ i ∧ i < n + 64 then φ1 i else φ i) = φ i; rw [if_neg hin]
      rw [← this]; exact hi
  · refine ⟨fun b cs e => ?_, fun i k e => ?_, fun i j k1 k2 l1 l2 e1 e2 e3 e4 e5 => ?_⟩
    · have e' : (if b < w.heap.size then im b else im1 b) = some cs := e
      split at e'
      · obtain ⟨t, g, hh⟩ := H.imh b cs e'; exact ⟨t, g, hold _ _ hh⟩
      · exact hrep.imh b cs e'
    · rcases cases_h i k e with ⟨hh, g1, g2⟩ | ⟨hh, hn⟩
      · rcases hrep.own i k hh with ⟨b1, b2⟩ | ⟨l, cs, b1, b2, b3, b4, b5, b6, b7⟩
        · refine .inl ⟨?_, b2⟩
          show (if n ≤ i ∧ i < n + 64 then φ1 i else φ i) = none
          rw [if_pos ⟨g1, g2⟩]; exact b1
        · refine .inr ⟨l, cs, hφ1 _ _ b1, b2, by omega, ?_, b5, b6, b7.mono hφ1 him1⟩
          show (if l.blk < w.heap.size then im l.blk else im1 l.blk) = none
          rw [if_neg (by omega)]; exact b4
      · rcases H.own i k hh with ⟨b1, b2⟩ | ⟨l, cs, b1, b2, b3, b4, b5, b6, b7⟩
        · refine .inl ⟨?_, b2⟩
          show (if n ≤ i ∧ i < n + 64 then φ1 i else φ i) = none
          rw [if_neg (by rintro ⟨g1, g2⟩; rw [hfreshh i g1 g2] at hh; cases hh)]; exact b1
        · refine .inr ⟨l, cs, hφ _ _ b1, hold _ _ b2, b3, ?_, b5, b6, b7.mono hφ him0⟩
          show (if l.blk < w.heap.size then im l.blk else im1 l.blk) = none
          rw [if_pos (hlt _ _ b2)]; exact b4
    · have new : ∀ i l, (n ≤ i ∧ i < n + 64) → φ' i = some l → φ1 i = some l := fun i l g e => by
        have : (if n ≤ i ∧ i < n + 64 then φ1 i else φ i) = some l := e
        rwa [if_pos g] at this
      have old : ∀ i k l, h i = some k → φ' i = some l → φ i = some l := fun i k l hh e => by
        have : (if n ≤ i ∧ i < n + 64 then φ1 i else φ i) = some l := e
        rwa [if_neg (by rintro ⟨g1, g2⟩; rw [hfreshh i g1 g2] at hh; cases hh)] at this
      have blkN : ∀ i k l, heapL n N i = some k → φ1 i = some l → w.heap.size ≤ l.blk := fun i k l hh e => by
        rcases hrep.own i k hh with ⟨b1, _⟩ | ⟨l', cs, b1, b2, b3, _⟩
        · rw [b1] at e; cases e
        · rw [b1] at e; cases e; exact b3
      have blkO : ∀ i k l, h i = some k → φ i = some l → l.blk < w.heap.size := fun i k l hh e => by
        rcases H.own i k hh with ⟨b1, _⟩ | ⟨l', cs, b1, b2, b3, _⟩
        · rw [b1] at e; cases e
        · rw [b1] at e; cases e; exact hlt _ _ b2
      rcases cases_h i k1 e1 with ⟨h1, g1⟩ | ⟨h1, _⟩
      · rcases cases_h j k2 e2 with ⟨h2, g2⟩ | ⟨h2, _⟩
        · exact hrep.apart i j k1 k2 l1 l2 h1 h2 (new i l1 g1 e3) (new j l2 g2 e4) e5
        · have b1 := blkN i k1 l1 h1 (new i l1 g1 e3)
          have b2 := blkO j k2 l2 h2 (old j k2 l2 h2 e4)
          omega
      · rcases cases_h j k2 e2 with ⟨h2, g2⟩ | ⟨h2, _⟩
        · have b1 := blkO i k1 l1 h1 (old i k1 l1 h1 e3)
          have b2 := blkN j k2 l2 h2 (new j l2 g2 e4)
          omega
        · exact H.apart i j k1 k2 l1 l2 h1 h2 (old i k1 l1 h1 e3) (old j k2 l2 h2 e4) e5

/-! ### Operands -/
theorem opd_V {env : AEnv} {a : Act} (hρ : ∀ t x, env t = some x → V im φ x (a.tmps.getD t undef)) {o : Operand} {x : AV} (h : opd env o = some x) : V im φ x (a.eval o) := by
  cases o with
  | tmp t => exact hρ t x h
  | const v => exact ofConst_V h
  | global g => cases h
  | func f => cases h; exact .fn _ _ _ _ _ _ (.nil _) (.nil _)

theorem opds_V {env : AEnv} {a : Act} (hρ : ∀ t x, env t = some x → V im φ x (a.tmps.getD t undef)) : ∀ {os : List Operand} {xs : List AV}, opds env os = some xs → VL im φ xs (os.map a.eval)
  | [], xs, h => by cases h; exact .nil _
  | o :: os, xs, h => by
    simp only [opds] at h
    split at h
    · rename_i v vs h1 h2
      cases h
      exact .cons _ _ _ _ _ (opd_V hρ h1) (opds_V hρ h2)
    · cases h

theorem optOpd_V {env : AEnv} {a : Act} (hρ : ∀ t x, env t = some x → V im φ x (a.tmps.getD t undef)) {o : Option Operand} {x : Option AV} (h : optOpd env o = some x) : VO φ im x (o.map a.eval) := by
  cases o with
  | none => cases h; exact .none
  | some o =>
    simp only [optOpd] at h
    split at h
    · rename_i v h1; cases h; exact .some _ _ (opd_V hρ h1)
    · cases h

theorem partsV_V {env : AEnv} {a : Act} (hρ : ∀ t x, env t = some x → V im φ x (a.tmps.getD t undef)) : ∀ {os : List (Nat × Operand)} {xs : List (Nat × AV)}, partsV env os = some xs → VP φ im xs (os.map fun (i, x) => (i, a.eval x))
  | [], xs, h => by cases h; exact .nil
  | (i, o) :: os, xs, h => by
    simp only [partsV] at h
    split at h
    · rename_i v vs h1 h2
      cases h
      exact .cons _ _ _ _ _ (opd_V hρ h1) (partsV_V hρ h2)
    · cases h

end
end Go.Eng

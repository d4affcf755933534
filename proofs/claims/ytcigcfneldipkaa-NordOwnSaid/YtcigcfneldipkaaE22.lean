/- Engine, part 22: a function that hands over memory of its own: its contract out of its evaluation. Condition: the contracts that the evaluator leans on hold, the decisions are what the tests say. -/
import Derived.Test.YtcigcfneldipkaaE21
namespace Go.Eng
open Go Go.RowKit

/-! ### Blocks under new numbers -/
def idxOf : List Nat → Nat → Nat → Option Nat
  | [], _, _ => none
  | j :: js, n, i => bif Nat.beq j i then some n else idxOf js (n + 1) i

mutual
def ren (kp : Bool) (ids : List Nat) (n : Nat) : Nat → AV → Option AV
  | 0, _ => none
  | _ + 1, .ptr i off => match idxOf ids n i with
    | some j => some (.ptr j off)
    | none => none
  | _ + 1, .slc i off len => match idxOf ids n i with
    | some j => some (.slc j off len)
    | none => none
  | _ + 1, .snap c l => bif kp then some (.snap c l) else none
  | _ + 1, .sptr c o => bif kp then some (.sptr c o) else none
  | d + 1, .fn f a c => match renL kp ids n d a, renL kp ids n d c with
    | some a, some c => some (.fn f a c)
    | _, _ => none
  | d + 1, .agg cs => match renL kp ids n d cs with
    | some cs => some (.agg cs)
    | none => none
  | d + 1, .tup cs => match renL kp ids n d cs with
    | some cs => some (.tup cs)
    | none => none
  | _ + 1, x => some x
def renL (kp : Bool) (ids : List Nat) (n : Nat) : Nat → List AV → Option (List AV)
  | 0, _ => none
  | _ + 1, [] => some []
  | d + 1, x :: xs => match ren kp ids n d x, renL kp ids n d xs with
    | some y, some ys => some (y :: ys)
    | _, _ => none
end

def renPhi (ids : List Nat) (n : Nat) (φ : Phi) : Phi := fun j => if n ≤ j then (ids[j - n]?).bind φ else none

theorem idxOf_is : ∀ {ids : List Nat} {n i j : Nat}, idxOf ids n i = some j → n ≤ j ∧ ids[j - n]? = some i
  | [], _, _, _, h => by cases h
  | k :: ks, n, i, j, h => by
    simp only [idxOf] at h
    cases hb : Nat.beq k i with
    | true =>
      rw [hb] at h
      cases h
      have := Nat.eq_of_beq_eq_true hb
      subst this
      simp
    | false =>
      rw [hb] at h
      obtain ⟨h1, h2⟩ := idxOf_is h
      refine ⟨by omega, ?_⟩
      rw [show j - n = (j - (n + 1)) + 1 by omega]
      simpa using h2

section
variable {ids : List Nat} {n : Nat} {φ : Phi} {im im' : Im} {kp : Bool}

theorem renPhi_of {i j : Nat} (h : idxOf ids n i = some j) : renPhi ids n φ j = φ i := by
  obtain ⟨h1, h2⟩ := idxOf_is h
  unfold renPhi
  rw [if_pos h1, h2]
  rfl

mutual
theorem ren_V (hk : kp = true → Im.le im im') : ∀ {d : Nat} {x y : AV} {v : Value}, ren kp ids n d x = some y → V im φ x v → V im' (renPhi ids n φ) y v
  | 0, _, _, _, h, _ => by simp [ren] at h
  | d + 1, .undef, _, _, h, hx => by simp only [ren] at h; cases h; cases hx; exact .undef _
  | d + 1, .bool _, _, _, h, hx => by simp only [ren] at h; cases h; cases hx; exact .bool _ _
  | d + 1, .int _ _, _, _, h, hx => by simp only [ren] at h; cases h; cases hx; exact .int _ _ _
  | d + 1, .flt _, _, _, h, hx => by simp only [ren] at h; cases h; cases hx; exact .flt _ _ (by assumption)
  | d + 1, .str _, _, _, h, hx => by simp only [ren] at h; cases h; cases hx; exact .str _ _
  | d + 1, .nilp, _, _, h, hx => by simp only [ren] at h; cases h; cases hx; exact .nilp _
  | d + 1, .nils, _, _, h, hx => by simp only [ren] at h; cases h; cases hx; exact .nils _
  | d + 1, .nilfn, _, _, h, hx => by simp only [ren] at h; cases h; cases hx; exact .nilfn _
  | d + 1, .nilif, _, _, h, hx => by simp only [ren] at h; cases h; cases hx; exact .nilif _
  | d + 1, .snap _ _, _, _, h, hx => by
    simp only [ren] at h
    cases hkp : kp with
    | false => rw [hkp] at h; cases h
    | true =>
      rw [hkp] at h
      cases h
      cases hx with
      | snap _ _ _ b o cap cs vs him hvs hl hle => exact .snap _ _ _ b o cap cs vs (hk hkp _ _ him) hvs (hl.mono (fun _ _ e => e) (hk hkp)) hle
      | snape => exact .snape _ _ _ _
  | d + 1, .sptr _ _, _, _, h, hx => by
    simp only [ren] at h
    cases hkp : kp with
    | false => rw [hkp] at h; cases h
    | true =>
      rw [hkp] at h
      cases h
      cases hx with
      | sptr _ _ _ b o cs vs him hvs hl => exact .sptr _ _ _ b o cs vs (hk hkp _ _ him) hvs (hl.mono (fun _ _ e => e) (hk hkp))
  | d + 1, .ptr i off, _, _, h, hx => by
    simp only [ren] at h
    split at h
    · rename_i j hj
      cases h
      cases hx with
      | ptr _ _ _ l hl => exact .ptr _ _ _ l (by rw [renPhi_of hj]; exact hl)
    · cases h
  | d + 1, .slc i off len, _, _, h, hx => by
    simp only [ren] at h
    split at h
    · rename_i j hj
      cases h
      cases hx with
      | slc _ _ _ _ cap l hl a b => exact .slc _ _ _ _ cap l (by rw [renPhi_of hj]; exact hl) a b
      | slc0 => exact .slc0 _ _ _
    · cases h
  | d + 1, .fn f a c, _, _, h, hx => by
    simp only [ren] at h
    split at h
    · rename_i a1 c1 h1 h2
      cases h
      cases hx with
      | fn _ _ _ _ a' c' ha hc => exact .fn _ _ _ _ a' c' (renL_V hk h1 ha) (renL_V hk h2 hc)
    · cases h
  | d + 1, .agg cs, _, _, h, hx => by
    simp only [ren] at h
    split at h
    · rename_i cs1 h1
      cases h
      cases hx with
      | agg _ _ cs' hv => exact .agg _ _ cs' (renL_V hk h1 hv)
    · cases h
  | d + 1, .tup cs, _, _, h, hx => by
    simp only [ren] at h
    split at h
    · rename_i cs1 h1
      cases h
      cases hx with
      | tup _ _ cs' hv => exact .tup _ _ cs' (renL_V hk h1 hv)
    · cases h
theorem renL_V (hk : kp = true → Im.le im im') : ∀ {d : Nat} {xs ys : List AV} {vs : List Value}, renL kp ids n d xs = some ys → VL im φ xs vs → VL im' (renPhi ids n φ) ys vs
  | 0, _, _, _, h, _ => by simp [renL] at h
  | d + 1, [], _, _, h, hx => by simp only [renL] at h; cases h; cases hx; exact .nil _
  | d + 1, x :: xs, _, _, h, hx => by
    simp only [renL] at h
    split at h
    · rename_i y ys h1 h2
      cases h
      cases hx with
      | cons _ _ v _ vs hv hvs => exact .cons _ _ _ _ _ (ren_V hk h1 hv) (renL_V hk h2 hvs)
    · cases h
end
end

def renBlks (kp : Bool) (ids : List Nat) (n : Nat) (h : AHeap) : List Nat → Option (List ABlk)
  | [] => some []
  | i :: is => match h i with
    | some b => match renL kp ids n 4096 b.cells, renBlks kp ids n h is with
      | some cs, some bs => some (⟨cs, b.ety⟩ :: bs)
      | _, _ => none
    | none => none

theorem renBlks_is {kp : Bool} {ids : List Nat} {n : Nat} {h : AHeap} : ∀ {is : List Nat} {bs : List ABlk}, renBlks kp ids n h is = some bs → bs.length = is.length ∧ ∀ (p : Nat) (k : ABlk), bs[p]? = some k → ∃ i b, is[p]? = some i ∧ h i = some b ∧ renL kp ids n 4096 b.cells = some k.cells ∧ k.ety = b.ety
  | [], bs, h => by cases h; exact ⟨rfl, fun p k h => by simp at h⟩
  | i :: is, bs, hh => by
    simp only [renBlks] at hh
    split at hh
    · rename_i b hb
      split at hh
      · rename_i cs bs' h1 h2
        cases hh
        obtain ⟨g1, g2⟩ := renBlks_is h2
        refine ⟨by simp [g1], fun p k hp => ?_⟩
        cases p with
        | zero =>
          simp only [List.getElem?_cons_zero, Option.some.injEq] at hp
          subst hp
          exact ⟨i, b, by simp, hb, h1, rfl⟩
        | succ p =>
          obtain ⟨i', b', q1, q2⟩ := g2 p k (by simpa using hp)
          exact ⟨i', b', by simpa using q1, q2⟩
      · cases hh
    · cases hh

theorem heapL_is : ∀ {bs : List ABlk} {n j : Nat} {k : ABlk}, heapL n bs j = some k → n ≤ j ∧ bs[j - n]? = some k
  | [], _, _, _, h => by cases h
  | b :: bs, n, j, k, h => by
    simp only [heapL] at h
    by_cases hj : j = n
    · subst hj
      rw [upd_same] at h
      cases h
      simp
    · rw [upd_other _ _ _ hj] at h
      obtain ⟨h1, h2⟩ := heapL_is h
      refine ⟨by omega, ?_⟩
      rw [show j - n = (j - (n + 1)) + 1 by omega]
      simpa using h2

def nodupB : List Nat → Bool
  | [] => true
  | x :: xs => !xs.elem x && nodupB xs

theorem nodupB_is : ∀ {xs : List Nat}, nodupB xs = true → ∀ {p q x : Nat}, xs[p]? = some x → xs[q]? = some x → p = q
  | [], _, p, q, x, h, _ => by simp at h
  | y :: ys, hn, p, q, x, h1, h2 => by
    simp only [nodupB, Bool.and_eq_true, Bool.not_eq_true', List.elem_eq_mem, decide_eq_false_iff_not] at hn
    cases p with
    | zero =>
      cases q with
      | zero => rfl
      | succ q =>
        simp only [List.getElem?_cons_zero, Option.some.injEq] at h1
        subst h1
        exact absurd (List.mem_of_getElem? (by simpa using h2)) hn.1
    | succ p =>
      cases q with
      | zero =>
        simp only [List.getElem?_cons_zero, Option.some.injEq] at h2
        subst h2
        exact absurd (List.mem_of_getElem? (by simpa using h1)) hn.1
      | succ q =>
        have := nodupB_is hn.2 (p := p) (q := q) (x := x) (by simpa using h1) (by simpa using h2)
        omega

/-- Memory under new numbers. -/
theorem HRep.ren {P : Program} {base : Nat} {φ : Phi} {im : Im} {h : AHeap} {w : World} (H : HRep P base φ im h w) {ids : List Nat} {n : Nat} (hn : nodupB ids = true) {kp : Bool} {bs : List ABlk} (hb : renBlks kp ids n h ids = some bs) (im' : Im)
    (him' : ∀ b cs, im' b = some cs → im b = some cs) (hk : kp = true → Im.le im im') : HRep P base (renPhi ids n φ) im' (heapL n bs) w := by
  obtain ⟨hlen, hbs⟩ := renBlks_is hb
  have ph : ∀ {j : Nat} {k : ABlk}, heapL n bs j = some k → ∃ i b, ids[j - n]? = some i ∧ h i = some b ∧ renL kp ids n 4096 b.cells = some k.cells ∧ k.ety = b.ety ∧ renPhi ids n φ j = φ i := by
    intro j k e
    obtain ⟨h1, h2⟩ := heapL_is e
    obtain ⟨i, b, q1, q2, q3, q4⟩ := hbs _ _ h2
    refine ⟨i, b, q1, q2, q3, q4, ?_⟩
    unfold renPhi
    rw [if_pos h1, q1]
    rfl
  refine ⟨fun b cs e => H.imh b cs (him' b cs e), ?_, ?_⟩
  · intro j k e
    obtain ⟨i, b, q1, q2, q3, q4, q5⟩ := ph e
    rcases H.own i b q2 with ⟨a1, a2⟩ | ⟨l, cs, a1, a2, a3, a4, a5, a6, a7⟩
    · left
      refine ⟨by rw [q5]; exact a1, ?_⟩
      rw [a2] at q3
      simp only [renL] at q3
      exact (Option.some.inj q3).symm
    · right
      have hL : VL im' (renPhi ids n φ) k.cells (cs.toList.take b.cells.length) := renL_V hk q3 a7
      refine ⟨l, cs, by rw [q5]; exact a1, by rw [q4]; exact a2, a3, ?_, a5, by rw [q4]; exact a6, ?_⟩
      · cases hi : im' l.blk with
        | none => rfl
        | some c => rw [him' _ _ hi] at a4; cases a4
      · have hl1 := hL.length
        have hl2 := a7.length
        have : k.cells.length = b.cells.length := by omega
        rw [this]
        exact hL
  · intro j1 j2 k1 k2 l1 l2 e1 e2 p1 p2 hl
    obtain ⟨i1, b1, q1, q2, q3, q4, q5⟩ := ph e1
    obtain ⟨i2, b2, r1, r2, r3, r4, r5⟩ := ph e2
    rw [q5] at p1
    rw [r5] at p2
    have := H.apart i1 i2 b1 b2 l1 l2 q2 r2 p1 p2 hl
    subst this
    have := nodupB_is hn q1 r1
    have := (heapL_is e1).1
    have := (heapL_is e2).1
    omega

/-! ### What is handed over -/
mutual
def idsV : Nat → AV → List Nat
  | 0, _ => []
  | _ + 1, .ptr i _ => [i]
  | _ + 1, .slc i _ _ => [i]
  | d + 1, .fn _ a c => idsL d a ++ idsL d c
  | d + 1, .agg cs => idsL d cs
  | d + 1, .tup cs => idsL d cs
  | _ + 1, _ => []
def idsL : Nat → List AV → List Nat
  | 0, _ => []
  | _ + 1, [] => []
  | d + 1, x :: xs => idsV d x ++ idsL d xs
end

def reach (h : AHeap) : Nat → List Nat → List Nat → List Nat
  | 0, _, seen => seen
  | _ + 1, [], seen => seen
  | d + 1, i :: todo, seen => bif seen.elem i then reach h d todo seen else match h i with
    | some b => reach h d (idsL 4096 b.cells ++ todo) (seen ++ [i])
    | none => reach h d todo (seen ++ [i])

structure HOut where
  val : AV
  blks : List ABlk
  ok : Bool

/-- What a function leaves where it stands at its end. -/
def finH (P : Program) (s : St) (rs : List ResultVar) (n : Nat) : Option HOut :=
  match resVars P s rs with
  | some (ys, c1) =>
    let ids := reach s.heap 4096 (idsL 4096 ys) []
    match renL false ids n 4096 ys, renBlks false ids n s.heap ids with
    | some zs, some bs => bif nodupB ids && Nat.ble ids.length 64 then some ⟨one zs, bs, c1 && s.ok⟩ else none
    | _, _ => none
  | none => none

def evFnH (C : Ctx) (nt : Nat) (qs : List Nat) (fuel : Nat) (c : Code) (rs : List ResultVar) (xs : List AV) (dec : List Bool) (n : Nat) : Option HOut :=
  match evCode C nt qs fuel c (St0 xs dec) with
  | some (.exit _, _) => none
  | some (_, s) => finH C.P s rs n
  | none => none

section
variable {C : Ctx} {nt : Nat} {qs : List Nat} {fuel : Nat}

/-- A function's contract: from where its code goes. -/
theorem con_goes {f : FuncId} {fn : Func} {c : Code} (hf : C.P.funcs[f]? = some fn) (hb : fn.body = some c) (hname : (fn.name == "runtime.NumGoroutine") = false) (hnt : fn.ntmps = nt)
    {xs : List AV} (hl : xs.length ≤ nt) {dec : List Bool} {e : Ex} {s : St} (hgo : ∀ w0, Goes C w0 nt c (St0 xs dec) e s) (hre : e = .ret ∨ e = .normal) {n : Nat} {r : HOut} (hs : finH C.P s fn.results.toList n = some r) (hok : r.ok = true) : Con C.P f xs n r.val r.blks := by
  intro im w args him hv
  refine ⟨_, _, run_callFunc hf hb hname args w, .inr ⟨f, args, rfl, ?_⟩⟩
  have hstart := rel_start (C := C) him hv hl dec
  unfold finH at hs
  split at hs
  · rename_i ys c1 hys
    dsimp only at hs
    split at hs
    · rename_i zs bs hzs hbs
      cases hg : (nodupB (reach s.heap 4096 (idsL 4096 ys) []) && Nat.ble (reach s.heap 4096 (idsL 4096 ys) []).length 64) with
      | false => rw [hg] at hs; cases hs
      | true =>
        rw [hg] at hs
        cases hs
        simp only [Bool.and_eq_true, Nat.ble_eq] at hg
        simp only [Bool.and_eq_true] at hok
        obtain ⟨hc1, hsok⟩ := hok
        generalize hids : reach s.heap 4096 (idsL 4096 ys) [] = ids at *
        refine calls_of_wp hf hb ?_
        rw [hnt]
        refine Go.wp_mono ((hgo w).of hstart) fun x a' w' ⟨hx, hR⟩ => ?_
        obtain ⟨⟨φ, im', RF, _⟩, _⟩ := hR
        obtain ⟨vs, g1, g2⟩ := resVars_sound RF hys hc1
        have g3 : VL (fun _ => none) (renPhi ids n φ) zs vs := renL_V (fun h => by cases h) hzs g2
        have hres : (results fn a'.tmps).run C.P w' = .ok (if h : vs.toArray.size = 1 then vs.toArray[0] else .tuple vs.toArray) w' := by
          have e : results fn a'.tmps = (do
            let vs ← fn.results.mapM (readRes a')
            return if h : vs.size = 1 then vs[0] else .tuple vs) := by
            unfold results
            congr 1
          rw [e, Array.mapM_eq_mapM_toList]
          simp only [Sem.run_bind, bind_map_left]
          rw [g1]
          rfl
        have hpost : ∃ v, (if h : vs.toArray.size = 1 then vs.toArray[0] else .tuple vs.toArray : Value) = v ∧ Leaves C.P w n (one zs) bs v w' := by
          refine ⟨_, rfl, renPhi ids n φ, fun _ => none, RF.below, fun i hi => ?_, fun b cs hb => (by cases hb), RF.hrep.ren hg.1 hbs _ (fun b cs hb => by cases hb) (fun h => by cases h), one_sound (by simpa using g3)⟩
          unfold renPhi at hi
          split at hi
          · rename_i hni
            refine ⟨hni, ?_⟩
            cases hq : ids[i - n]? with
            | none => rw [hq] at hi; exact absurd rfl hi
            | some k =>
              have := (List.getElem?_eq_some_iff.1 hq).1
              omega
          · exact absurd rfl hi
        obtain ⟨v, hv1, hv2⟩ := hpost
        rcases hre with rfl | rfl
        · subst hx
          exact ⟨RF.defers, v, by rw [hres, hv1], v, rfl, hv2⟩
        · subst hx
          exact ⟨RF.defers, v, by rw [hres, hv1], v, rfl, hv2⟩
    · cases hs
  · cases hs

theorem finH_ok {P : Program} {s : St} {rs : List ResultVar} {n : Nat} {r : HOut} (h : finH P s rs n = some r) (hok : r.ok = true) : s.ok = true := by
  unfold finH at h
  split at h
  · dsimp only at h
    split at h
    · rename_i ys c1 hys _ _ zs bs hzs hbs
      cases hg : (nodupB (reach s.heap 4096 (idsL 4096 ys) []) && Nat.ble (reach s.heap 4096 (idsL 4096 ys) []).length 64) with
      | false => rw [hg] at h; cases h
      | true =>
        rw [hg] at h
        cases h
        simp only [Bool.and_eq_true] at hok
        exact hok.2
    · cases h
  · cases h

theorem con_ofH (hO : OrcOK C.P C.orc) (hm : C.P.follows .mixedOrders = true) {f : FuncId} {fn : Func} {c : Code} (hf : C.P.funcs[f]? = some fn) (hb : fn.body = some c) (hname : (fn.name == "runtime.NumGoroutine") = false) (hnt : fn.ntmps = nt)
    {xs : List AV} (hl : xs.length ≤ nt) {dec : List Bool} {n : Nat} {r : HOut} (hev : evFnH C nt qs fuel c fn.results.toList xs dec n = some r) (hok : r.ok = true) : Con C.P f xs n r.val r.blks := by
  unfold evFnH at hev
  split at hev
  · cases hev
  · rename_i e s hne he
    refine con_goes hf hb hname hnt hl (dec := dec) (e := e) (s := s) (fun w0 => (evCode_sound hO hm c _ s e he (finH_ok hev hok)).2) ?_ hev hok
    cases e with
    | ret => exact .inl rfl
    | normal => exact .inr rfl
    | exit j => exact absurd rfl (hne j)
  · cases hev
end
end Go.Eng

/- Engine, part 19: a region in its own order; regions evaluated along decisions. Condition: the contracts that the evaluator leans on hold, the decisions are what the tests say. -/
import Derived.Test.YtcigcfneldipkaaE18
namespace Go.Eng
open Go Go.RowKit

section
variable {C : Ctx} {w0 : World} {ops : List Oper} {ef : Nat → Eff} {env0 : AEnv} {h0 : AHeap} {nt n0 : Nat}

theorem region_seq (hO : OrcOK C.P C.orc) (T : Text C ops ef env0 h0 nt n0) (W : ∀ j, j < ops.length → ∀ id, id ∈ (ef j).wr.map (·.1) → id < n0 ∨ (id - n0) / 64 ≤ j) {φ : Phi} {im : Im} {a : Act} {w : World} (R : RelF C.P w0 nt φ im env0 h0 a w)
    (fφ : ∀ id, n0 ≤ id → φ id = none) (fh : ∀ id, n0 ≤ id → h0 id = none) {id : Nat} {Q : Exit → Act → World → Prop}
    (hQ : ∀ a' w' φ' im', RelF C.P w0 nt φ' im' (envAt ops ef env0 (fun _ => true) ops.length) (heapAt ef h0 (fun _ => true) ops.length) a' w' → (∀ i, n0 + 64 * ops.length ≤ i → φ' i = none) → Q .normal a' w') :
    (Code.region id ops.toArray false).wp C.P Q a w := by
  refine wp_region ?_
  rw [List.range_eq_range']
  have key : ∀ m k, k + m = ops.length → ∀ φ im a w, RelF C.P w0 nt φ im (envAt ops ef env0 (fun _ => true) k) (heapAt ef h0 (fun _ => true) k) a w → (∀ i, n0 + 64 * k ≤ i → φ i = none) →
      wpOps C.P ops.toArray Q (List.range' k m) a w := by
    intro m
    induction m with
    | zero =>
      intro k hk φ im a w R f
      have : k = ops.length := by omega
      subst this
      exact hQ a w φ im R f
    | succ m ih =>
      intro k hk φ im a w R f
      rw [List.range'_succ, wpOps_cons]
      have hkl : k < ops.length := by omega
      have hok : ops[k]? = some ops[k] := by simp [hkl]
      refine sOp_sound hO hok R (fun d hd => T.dst k ops[k] d hok hd) (fun id h1 h2 => f id h1) ?_ (T.step k ops[k] hok) (T.ok k hkl) fun a' w' φ' im' _ _ hnews hR' => ?_
      · intro id h1 h2
        cases hp : heapAt ef h0 (fun _ => true) k id with
        | none => rfl
        | some b =>
          exfalso
          rcases heapAt_some _ (by rw [hp]; simp) with g | ⟨m, g1, _, g3⟩
          · exact g (fh id (by omega))
          · rcases W m (by omega) id g3 with g | g
            · omega
            · have : k ≤ (id - n0) / 64 := by rw [Nat.le_div_iff_mul_le (by omega)]; omega
              omega
      · refine ih (k + 1) (by omega) φ' im' a' w' ?_ ?_
        · have e1 : envAt ops ef env0 (fun _ => true) (k + 1) = updD (envAt ops ef env0 (fun _ => true) k) ops[k].dst (ef k).val := by
            show (bif true then _ else _) = _
            simp [dstAt, hok]
          rw [e1]
          exact hR'
        · intro i hi
          cases hp : φ' i with
          | none => rfl
          | some l =>
            rcases hnews i (by rw [hp]; simp) with g | g
            · exact absurd (f i (by omega)) g
            · omega
  have := key ops.length 0 (by omega) φ im a w R (by simpa using fφ)
  simpa using this
end

/-! ### Evaluated along decisions -/
def asks (ops : List Oper) (o : Oper) : List Nat :=
  (match o.guard with
    | some (j, _) => (gdst ops j).toList
    | none => []) ++
  (match o.op with
    | .pick (.tmp c) _ _ => [c]
    | _ => [])

structure DS where
  env : AEnv
  memo : List Nat
  dec : List Bool
  ok : Bool

def fixEnv : List Nat → DS → Option DS
  | [], s => some s
  | t :: ts, s => match s.env t with
    | some (.bool b) => bif s.memo.elem t then
      (match s.dec with
      | v :: ds => fixEnv ts ⟨upd s.env t (some (.bool v)), s.memo.filter (fun u => !Nat.beq u t), ds, (bif v then b else !b) && s.ok⟩
      | [] => none) else fixEnv ts s
    | _ => fixEnv ts s

def dstOk (nt : Nat) (d : Option Nat) : Bool := match d with | some d => Nat.blt d nt | none => true

structure RS where
  env : AEnv
  heap : AHeap
  effs : List Eff
  dec : List Bool
  ok : Bool

def runD (C : Ctx) (qs : List Nat) (nt n0 : Nat) (ops : List Oper) : List Oper → Nat → AHeap → DS → Option RS
  | [], _, h, s => some ⟨s.env, h, [], s.dec, s.ok⟩
  | o :: os, k, h, s => match fixEnv (asks ops o) s with
    | some s1 => match sOp C ops s1.env h (n0 + 64 * k) o with
      | some e => bif dstOk nt o.dst then
          match runD C qs nt n0 ops os (k + 1) (updL h e.wr) ⟨updD s1.env o.dst e.val, (match o.dst with | some d => bif qs.elem d then d :: s1.memo else s1.memo | none => s1.memo), s1.dec, e.ok && s1.ok⟩ with
          | some r => some { r with effs := e :: r.effs }
          | none => none
        else none
      | none => none
    | none => none

theorem fixEnv_ok : ∀ (ts : List Nat) (s s' : DS), fixEnv ts s = some s' → s'.ok = true → s.ok = true ∧ s'.env = s.env
  | [], s, s', h, hok => by cases h; exact ⟨hok, rfl⟩
  | t :: ts, s, s', h, hok => by
    simp only [fixEnv] at h
    split at h
    · rename_i b hb
      cases hm : s.memo.elem t with
      | false => rw [hm] at h; exact fixEnv_ok ts s s' h hok
      | true =>
        rw [hm] at h
        simp only [cond_true] at h
        split at h
        · rename_i v ds hd
          obtain ⟨h1, h2⟩ := fixEnv_ok ts _ _ h hok
          simp only [Bool.and_eq_true] at h1
          refine ⟨h1.2, ?_⟩
          rw [h2]
          funext x
          show upd s.env t (some (.bool v)) x = s.env x
          by_cases hx : x = t
          · subst hx
            rw [upd_same, hb]
            have : v = b := by
              cases v
              · simpa using h1.1.symm
              · simpa using h1.1.symm
            rw [this]
          · exact upd_other _ _ _ hx
        · cases h
    · exact fixEnv_ok ts s s' h hok

theorem runD_ok {C : Ctx} {qs : List Nat} {nt n0 : Nat} {ops : List Oper} : ∀ (l : List Oper) (k : Nat) (h : AHeap) (s : DS) (r : RS), runD C qs nt n0 ops l k h s = some r → r.ok = true → (∀ j, l[j]? = ops[k + j]?) →
    s.ok = true ∧ r.effs.length = l.length ∧ ∀ (ef : Nat → Eff) (env0 : AEnv) (h0 : AHeap), (∀ j e, r.effs[j]? = some e → ef (k + j) = e) → s.env = envAt ops ef env0 (fun _ => true) k → h = heapAt ef h0 (fun _ => true) k →
      (∀ (j : Nat) (o : Oper), l[j]? = some o → sOp C ops (envAt ops ef env0 (fun _ => true) (k + j)) (heapAt ef h0 (fun _ => true) (k + j)) (n0 + 64 * (k + j)) o = some (ef (k + j)) ∧ (ef (k + j)).ok = true ∧ ∀ d, o.dst = some d → d < nt) ∧
      r.env = envAt ops ef env0 (fun _ => true) (k + l.length) ∧ r.heap = heapAt ef h0 (fun _ => true) (k + l.length)
  | [], k, h, s, r, hr, hok, _ => by
    cases hr
    exact ⟨hok, rfl, fun ef env0 h0 _ e1 e2 => ⟨fun j o hj => by simp at hj, e1, e2⟩⟩
  | o :: os, k, h, s, r, hr, hok, hops => by
    simp only [runD] at hr
    split at hr
    · rename_i s1 hs1
      split at hr
      · rename_i e he
        cases hd : dstOk nt o.dst with
        | false => rw [hd] at hr; cases hr
        | true =>
          rw [hd] at hr
          simp only [cond_true] at hr
          split at hr
          · rename_i r' hr'
            cases hr
            have hops' : ∀ j, os[j]? = ops[k + 1 + j]? := fun j => by
              have := hops (j + 1)
              rw [show k + 1 + j = k + (j + 1) by omega, ← this]; simp
            obtain ⟨g1, g2, g3⟩ := runD_ok os (k + 1) _ _ r' hr' hok hops'
            simp only [Bool.and_eq_true] at g1
            obtain ⟨f1, f2⟩ := fixEnv_ok _ _ _ hs1 g1.2
            have hk : ops[k]? = some o := by have := hops 0; simpa using this.symm
            refine ⟨f1, by simp [g2], fun ef env0 h0 hef e1 e2 => ?_⟩
            have hefk : ef k = e := by simpa using hef 0 e (by simp)
            have e1' : updD s1.env o.dst e.val = envAt ops ef env0 (fun _ => true) (k + 1) := by
              show _ = (bif true then _ else _)
              simp only [cond_true, dstAt, hk, Option.bind_some]
              rw [f2, e1, hefk]
            have e2' : updL h e.wr = heapAt ef h0 (fun _ => true) (k + 1) := by
              show _ = (bif true then _ else _)
              simp only [cond_true]
              rw [e2, hefk]
            obtain ⟨k1, k2, k3⟩ := g3 ef env0 h0 (fun j e' hj => by rw [show k + 1 + j = k + (j + 1) by omega]; exact hef (j + 1) e' (by simpa using hj)) e1' e2'
            refine ⟨fun j o' hj => ?_, ?_, ?_⟩
            · cases j with
              | zero =>
                simp only [List.getElem?_cons_zero, Option.some.injEq] at hj
                subst hj
                refine ⟨?_, ?_, fun d hdd => ?_⟩
                · rw [Nat.add_zero, ← e1, ← e2, ← f2, hefk]; exact he
                · rw [Nat.add_zero, hefk]; exact g1.1
                · rw [hdd] at hd
                  unfold dstOk at hd
                  rwa [Nat.blt_eq] at hd
              | succ j =>
                have := k1 j o' (by simpa using hj)
                rw [show k + 1 + j = k + (j + 1) by omega] at this
                exact this
            · rw [List.length_cons, show k + (os.length + 1) = k + 1 + os.length by omega]; exact k2
            · rw [List.length_cons, show k + (os.length + 1) = k + 1 + os.length by omega]; exact k3
          · cases hr
      · cases hr
    · cases hr

def Eff.foot (e : Eff) : Rec := ⟨e.wr.map (·.1), e.rd⟩

def seqB (n0 : Nat) : Nat → List Eff → Bool
  | _, [] => true
  | k, e :: es => (e.wr.all fun p => Nat.blt p.1 n0 || Nat.ble ((p.1 - n0) / 64) k) && seqB n0 (k + 1) es

theorem seqB_is {n0 : Nat} : ∀ (es : List Eff) (k : Nat), seqB n0 k es = true → ∀ (j : Nat) (e : Eff), es[j]? = some e → ∀ id, id ∈ e.wr.map (·.1) → id < n0 ∨ (id - n0) / 64 ≤ k + j
  | [], _, _, j, e, hj => by simp at hj
  | e :: es, k, h, j, e', hj => by
    simp only [seqB, Bool.and_eq_true] at h
    intro id hid
    cases j with
    | zero =>
      simp only [List.getElem?_cons_zero, Option.some.injEq] at hj
      subst hj
      rw [List.all_eq_true] at h
      obtain ⟨p, hp, rfl⟩ := List.mem_map.1 hid
      have := h.1 p hp
      simp only [Bool.or_eq_true, Nat.blt_eq, Nat.ble_eq] at this
      simpa using this
    | succ j =>
      have := seqB_is es (k + 1) h.2 j e' (by simpa using hj) id hid
      omega

/-- The state of a frame, as the evaluator holds it. -/
structure St where
  env : AEnv
  heap : AHeap
  nx : Nat
  dec : List Bool
  ok : Bool

/-- A region, evaluated. -/
def evRegion (C : Ctx) (nt : Nat) (qs : List Nat) (ops : List Oper) (draw : Bool) (s : St) : Option St :=
  match runD C qs nt s.nx ops ops 0 s.heap ⟨s.env, qs, s.dec, s.ok⟩ with
  | some r => bif (bif draw then orderF ops s.nx (r.effs.map Eff.foot) else seqB s.nx 0 r.effs) then some ⟨r.env, r.heap, s.nx + 64 * ops.length, r.dec, r.ok⟩ else none
  | none => none

/-- The frame stands to the evaluator's state. -/
structure RelS (P : Program) (w0 : World) (nt : Nat) (s : St) (a : Act) (w : World) : Prop where
  rel : ∃ φ im, RelF P w0 nt φ im s.env s.heap a w ∧ ∀ i, s.nx ≤ i → φ i = none
  fh : ∀ i, s.nx ≤ i → s.heap i = none

theorem evRegion_sound {C : Ctx} (hO : OrcOK C.P C.orc) (hm : C.P.follows .mixedOrders = true) {w0 : World} {nt : Nat} {qs : List Nat} {ops : List Oper} {draw : Bool} {s s' : St} (hev : evRegion C nt qs ops draw s = some s') (hok : s'.ok = true) :
    s.ok = true ∧ ∀ {a : Act} {w : World}, RelS C.P w0 nt s a w → ∀ {id : Nat} {Q : Exit → Act → World → Prop}, (∀ a' w', RelS C.P w0 nt s' a' w' → Q .normal a' w') → (Code.region id ops.toArray draw).wp C.P Q a w := by
  unfold evRegion at hev
  split at hev
  · rename_i r hr
    cases hc : (bif draw then orderF ops s.nx (r.effs.map Eff.foot) else seqB s.nx 0 r.effs) with
    | false => rw [hc] at hev; cases hev
    | true =>
      rw [hc] at hev
      cases hev
      obtain ⟨g1, g2, g3⟩ := runD_ok ops 0 _ _ r hr hok (fun j => by simp)
      refine ⟨g1, fun {a w} R {id Q} hQ => ?_⟩
      obtain ⟨⟨φ, im, RF, fφ⟩, fh⟩ := R
      obtain ⟨k1, k2, k3⟩ := g3 (fun j => r.effs.getD j skipE) s.env s.heap (fun j e hj => by simp [hj]) rfl rfl
      simp only [Nat.zero_add] at k1 k2 k3
      have T : Text C ops (fun j => r.effs.getD j skipE) s.env s.heap nt s.nx :=
        ⟨fun k o ho => (k1 k o ho).1, fun k hk => (k1 k ops[k] (by simp [hk])).2.1, fun k o d ho hd => (k1 k o ho).2.2 d hd⟩
      have heffs : ∀ k, k < ops.length → r.effs[k]? = some (r.effs.getD k skipE) := fun k hk => by
        have : k < r.effs.length := by rw [g2]; exact hk
        simp [this]
      have hwr : ∀ j, j < ops.length → ∀ id, id ∈ (r.effs.getD j skipE).wr.map (·.1) → id < s.nx ∨ (id - s.nx) / 64 ≤ j := by
        cases draw with
        | false =>
          intro j hj id hid
          have := seqB_is r.effs 0 (by simpa using hc) j _ (heffs j hj) id hid
          simpa using this
        | true =>
          intro j hj id hid
          have O := ordered_of (ops := ops) (ef := fun j => r.effs.getD j skipE) (n0 := s.nx) (rs := r.effs.map Eff.foot) (fun k hk => by rw [List.getElem?_map, heffs k hk]; rfl) (orderF_is (by simpa using hc))
          have hwn := O.win j hj id (.inr hid)
          unfold winB at hwn
          simp only [Bool.or_eq_true, Nat.blt_eq] at hwn
          rcases hwn with g | g | g
          · exact .inl g
          · exact .inr (Nat.le_of_eq (Nat.eq_of_beq_eq_true g))
          · right
            have := masks_bit (S := fun k => k ≤ j) ops [] (fun k o ho hk e he hb => by
              have := O.back k o ho e he hb
              simp only [List.length_nil, Nat.zero_add] at hk
              omega) (fun k i _ hk => by simp at hk) j ((id - s.nx) / 64) (Nat.le_refl _) g
            exact this
      have fin : ∀ a' w' φ' im', RelF C.P w0 nt φ' im' (envAt ops (fun j => r.effs.getD j skipE) s.env (fun _ => true) ops.length) (heapAt (fun j => r.effs.getD j skipE) s.heap (fun _ => true) ops.length) a' w' →
          (∀ i, s.nx + 64 * ops.length ≤ i → φ' i = none) → Q .normal a' w' := by
        intro a' w' φ' im' hR hF
        refine hQ a' w' ⟨⟨φ', im', ?_, hF⟩, ?_⟩
        · rw [← k2, ← k3] at hR; exact hR
        · intro i hi
          show r.heap i = none
          have hi' : s.nx + 64 * ops.length ≤ i := hi
          rw [k3]
          cases hp : heapAt (fun j => r.effs.getD j skipE) s.heap (fun _ => true) ops.length i with
          | none => rfl
          | some b =>
            exfalso
            rcases heapAt_some _ (by rw [hp]; simp) with g | ⟨m, q1, _, q3⟩
            · exact g (fh i (by omega))
            · rcases hwr m q1 i q3 with g | g
              · omega
              · have : ops.length ≤ (i - s.nx) / 64 := by rw [Nat.le_div_iff_mul_le (by omega)]; omega
                omega
      cases draw with
      | false => exact region_seq hO T hwr RF fφ fh fin
      | true =>
        have O := ordered_of (ops := ops) (ef := fun j => r.effs.getD j skipE) (n0 := s.nx) (rs := r.effs.map Eff.foot) (fun k hk => by rw [List.getElem?_map, heffs k hk]; rfl) (orderF_is (by simpa using hc))
        exact region_draw hO hm T O RF fφ fh fin
  · cases hev
end Go.Eng

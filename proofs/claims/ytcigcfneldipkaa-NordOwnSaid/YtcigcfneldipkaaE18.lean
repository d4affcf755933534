/- Engine, part 18: a region, evaluated along decisions; its soundness, drawn or not. Condition: the contracts that the evaluator leans on hold, the decisions are what the tests say. -/
import Derived.Test.YtcigcfneldipkaaE17
namespace Go.Eng
open Go Go.RowKit

section
variable {C : Ctx} {w0 : World} {ops : List Oper} {ef : Nat → Eff} {env0 : AEnv} {h0 : AHeap} {nt n0 : Nat}

theorem getD_set_plus {listed : Array Bool} {i : Nat} (hs : i < listed.size) : (fun k => (listed.setIfInBounds i true).getD k false) = plus (fun k => listed.getD k false) i := by
  funext k
  by_cases hk : k = i
  · subst hk
    rw [plus_self, Array.getD_eq_getD_getElem?, Array.getElem?_setIfInBounds_self_of_lt hs]
    rfl
  · rw [plus_other _ hk, Array.getD_eq_getD_getElem?, Array.getElem?_setIfInBounds_ne (Ne.symm hk), Array.getD_eq_getD_getElem?]

theorem envAt_lt (i : Nat) : ∀ k, envAt ops ef env0 (fun m => decide (m < i)) (i + k) = envAt ops ef env0 (fun _ => true) i
  | 0 => funext fun t => envAt_congr _ fun m hm _ => by simpa using hm
  | k + 1 => by
    show (bif decide (i + k < i) then _ else _) = _
    have : decide (i + k < i) = false := by simp
    rw [this]
    exact envAt_lt i k

theorem heapAt_lt (i : Nat) : ∀ k, heapAt ef h0 (fun m => decide (m < i)) (i + k) = heapAt ef h0 (fun _ => true) i
  | 0 => funext fun t => heapAt_congr _ fun m hm _ => by simpa using hm
  | k + 1 => by
    show (bif decide (i + k < i) then _ else _) = _
    have : decide (i + k < i) = false := by simp
    rw [this]
    exact heapAt_lt i k

/-- Where there is something, somebody has laid it. -/
theorem heapAt_some {S : Nat → Bool} {x : Nat} : ∀ k, heapAt ef h0 S k x ≠ none → h0 x ≠ none ∨ ∃ m, m < k ∧ S m = true ∧ x ∈ (ef m).wr.map (·.1)
  | 0, h => .inl h
  | k + 1, h => by
    simp only [heapAt] at h
    cases hS : S k with
    | false =>
      rw [hS] at h
      rcases heapAt_some k h with h | ⟨m, h1, h2⟩
      · exact .inl h
      · exact .inr ⟨m, by omega, h2⟩
    | true =>
      rw [hS] at h
      simp only [cond_true] at h
      by_cases hx : x ∈ (ef k).wr.map (·.1)
      · exact .inr ⟨k, by omega, hS, hx⟩
      · rw [updL_other hx] at h
        rcases heapAt_some k h with h | ⟨m, h1, h2⟩
        · exact .inl h
        · exact .inr ⟨m, by omega, h2⟩

structure Ordered (ops : List Oper) (ef : Nat → Eff) (n0 : Nat) : Prop where
  back : ∀ (k : Nat) (o : Oper), ops[k]? = some o → ∀ e ∈ o.after.toList, Region.binds .any e = true → e.on < k
  win : ∀ j, j < ops.length → ∀ id, id ∈ (ef j).rd ∨ id ∈ (ef j).wr.map (·.1) → winB n0 ((masks [] ops).getD j 0) j id = true
  pair : ∀ (i j : Nat) (oi oj : Oper), i < j → ops[i]? = some oi → ops[j]? = some oj → ((masks [] ops).getD j 0).testBit i = true ∨ indepB ops oi ⟨(ef i).wr.map (·.1), (ef i).rd⟩ oj ⟨(ef j).wr.map (·.1), (ef j).rd⟩ = true

theorem ordered_of {rs : List Rec} (hrs : ∀ k, k < ops.length → rs[k]? = some ⟨(ef k).wr.map (·.1), (ef k).rd⟩) (h : orderB ops n0 (masks [] ops) rs = true) : Ordered ops ef n0 := by
  unfold orderB at h
  rw [List.all_eq_true] at h
  have key : ∀ (j : Nat) (oj : Oper), ops[j]? = some oj → (oj.after.toList.all fun e => !Region.binds .any e || Nat.blt e.on j) = true ∧
      (((ef j).rd ++ (ef j).wr.map (·.1)).all fun id => winB n0 ((masks [] ops).getD j 0) j id) = true ∧
      ((List.range j).all fun i => ((masks [] ops).getD j 0).testBit i || match ops[i]?, rs[i]? with
        | some oi, some ri => indepB ops oi ri oj ⟨(ef j).wr.map (·.1), (ef j).rd⟩
        | _, _ => false) = true := by
    intro j oj hoj
    have hj : j < ops.length := (List.getElem?_eq_some_iff.1 hoj).1
    have := h j (by simpa using hj)
    rw [hoj, hrs j hj] at this
    simp only [Bool.and_eq_true] at this
    exact ⟨this.1.1, this.1.2, this.2⟩
  refine ⟨fun k o ho e he hb => ?_, fun j hj id hid => ?_, fun i j oi oj hij hoi hoj => ?_⟩
  · have := (key k o ho).1
    rw [List.all_eq_true] at this
    have := this e he
    rw [hb] at this
    simpa [Nat.blt_eq] using this
  · have := (key j ops[j] (by simp [hj])).2.1
    rw [List.all_eq_true] at this
    exact this id (by rw [List.mem_append]; exact hid)
  · have := (key j oj hoj).2.2
    rw [List.all_eq_true] at this
    have := this i (by simpa using hij)
    have hi : i < ops.length := (List.getElem?_eq_some_iff.1 hoi).1
    rw [hoi, hrs i hi] at this
    simpa using this

/-! ### The same, with what the text alone tells apart from what the run tells -/
def statPair (ops : List Oper) (o1 o2 : Oper) : Bool := apartL o1.dst.toList (looksOf ops o2) && apartL o1.dst.toList o2.dst.toList && apartL o2.dst.toList (looksOf ops o1)

def statB (ops : List Oper) : Bool :=
  (List.range ops.length).all fun j => match ops[j]? with
    | some oj => (oj.after.toList.all fun e => !Region.binds .any e || Nat.blt e.on j) &&
      (List.range j).all fun i => ((masks [] ops).getD j 0).testBit i || match ops[i]? with
        | some oi => statPair ops oi oj
        | none => false
    | none => false

def openPairs (ops : List Oper) : List (Nat × Nat) :=
  (List.range ops.length).flatMap fun j => ((List.range j).filter fun i => !((masks [] ops).getD j 0).testBit i).map fun i => (i, j)

def dynB (ms : List Nat) (n0 : Nat) : Nat → List Rec → Bool
  | _, [] => true
  | j, r :: rs => ((r.rd ++ r.wr).all fun id => winB n0 (ms.getD j 0) j id) && dynB ms n0 (j + 1) rs

def pairB (rs : List Rec) : List (Nat × Nat) → Bool
  | [] => true
  | p :: ps => (match rs[p.1]?, rs[p.2]? with
    | some ri, some rj => apartL ri.wr (rj.rd ++ rj.wr) && apartL rj.wr ri.rd
    | _, _ => false) && pairB rs ps

def orderF (ops : List Oper) (n0 : Nat) (rs : List Rec) : Bool := statB ops && (Nat.beq rs.length ops.length && (dynB (masks [] ops) n0 0 rs && pairB rs (openPairs ops)))

theorem dynB_is {ms : List Nat} {n0 : Nat} : ∀ {rs : List Rec} {j : Nat}, dynB ms n0 j rs = true → ∀ (k : Nat) (r : Rec), rs[k]? = some r → ((r.rd ++ r.wr).all fun id => winB n0 (ms.getD (j + k) 0) (j + k) id) = true
  | [], _, _, k, r, h => by simp at h
  | q :: rs, j, h, 0, r, hr => by
    simp only [List.getElem?_cons_zero, Option.some.injEq] at hr
    subst hr
    simp only [dynB, Bool.and_eq_true] at h
    exact h.1
  | q :: rs, j, h, k + 1, r, hr => by
    simp only [dynB, Bool.and_eq_true] at h
    have := dynB_is h.2 k r (by simpa using hr)
    rw [show j + (k + 1) = j + 1 + k by omega]
    exact this

theorem pairB_is {rs : List Rec} : ∀ {ps : List (Nat × Nat)}, pairB rs ps = true → ∀ p ∈ ps, ∃ ri rj, rs[p.1]? = some ri ∧ rs[p.2]? = some rj ∧ apartL ri.wr (rj.rd ++ rj.wr) = true ∧ apartL rj.wr ri.rd = true
  | [], _, p, hp => by simp at hp
  | q :: ps, h, p, hp => by
    simp only [pairB, Bool.and_eq_true] at h
    rcases List.mem_cons.1 hp with rfl | hp
    · have h1 := h.1
      split at h1
      · rename_i ri rj e1 e2
        simp only [Bool.and_eq_true] at h1
        exact ⟨ri, rj, e1, e2, h1.1, h1.2⟩
      · cases h1
    · exact pairB_is h.2 p hp

theorem orderF_is {ops : List Oper} {n0 : Nat} {rs : List Rec} (h : orderF ops n0 rs = true) : orderB ops n0 (masks [] ops) rs = true := by
  simp only [orderF, Bool.and_eq_true] at h
  obtain ⟨h1, h2, h3, h4⟩ := h
  have hlen := Nat.eq_of_beq_eq_true h2
  unfold orderB
  rw [List.all_eq_true]
  intro j hj
  have hj' : j < ops.length := by simpa using hj
  have e1 : ops[j]? = some ops[j] := by simp [hj']
  have e2 : rs[j]? = some (rs[j]'(by omega)) := by simp [hlen, hj']
  rw [e1, e2]
  unfold statB at h1
  rw [List.all_eq_true] at h1
  have h1j := h1 j hj
  rw [e1] at h1j
  simp only [Bool.and_eq_true] at h1j ⊢
  refine ⟨⟨h1j.1, ?_⟩, ?_⟩
  · have := dynB_is h3 j _ e2
    simpa using this
  · rw [List.all_eq_true]
    intro i hi
    have hij : i < j := by simpa using hi
    have e3 : ops[i]? = some ops[i] := by simp
    have e4 : rs[i]? = some (rs[i]'(by omega)) := by simp
    cases hb : ((masks [] ops).getD j 0).testBit i with
    | true => rfl
    | false =>
      rw [Bool.false_or, e3, e4]
      have h1i := h1j.2
      rw [List.all_eq_true] at h1i
      have := h1i i hi
      rw [hb, Bool.false_or, e3] at this
      have hmem : (i, j) ∈ openPairs ops := by
        unfold openPairs
        rw [List.mem_flatMap]
        refine ⟨j, hj, ?_⟩
        rw [List.mem_map]
        exact ⟨i, by rw [List.mem_filter]; exact ⟨hi, by rw [hb]; rfl⟩, rfl⟩
      obtain ⟨ri, rj, g1, g2, g3, g4⟩ := pairB_is h4 (i, j) hmem
      rw [e4] at g1
      rw [e2] at g2
      cases g1
      cases g2
      simp only [statPair, Bool.and_eq_true] at this
      simp only [indepB, Bool.and_eq_true]
      exact ⟨⟨⟨⟨this.1.1, this.1.2⟩, this.2⟩, g3⟩, g4⟩

/-- A region that draws its order. -/
theorem region_draw (hO : OrcOK C.P C.orc) (hm : C.P.follows .mixedOrders = true) (T : Text C ops ef env0 h0 nt n0) (O : Ordered ops ef n0) {φ : Phi} {im : Im} {a : Act} {w : World} (R : RelF C.P w0 nt φ im env0 h0 a w)
    (fφ : ∀ id, n0 ≤ id → φ id = none) (fh : ∀ id, n0 ≤ id → h0 id = none) {id : Nat} {Q : Exit → Act → World → Prop}
    (hQ : ∀ a' w' φ' im', RelF C.P w0 nt φ' im' (envAt ops ef env0 (fun _ => true) ops.length) (heapAt ef h0 (fun _ => true) ops.length) a' w' → (∀ i, n0 + 64 * ops.length ≤ i → φ' i = none) → Q .normal a' w') :
    (Code.region id ops.toArray true).wp C.P Q a w := by
  refine wp_region_any hm ?_
  refine wpAny_of_inv (w0 := w0) (nt := nt) (n0 := n0) (ef := ef) (env0 := env0) (h0 := h0) ?_ O.back ?_ _ _ _ _ ?_ ?_
  · rintro a' w' ⟨φ', im', hR, hF⟩
    refine hQ a' w' φ' im' hR fun i hi => ?_
    cases hp : φ' i with
    | none => rfl
    | some l =>
      have := hF i (by omega) (by rw [hp]; simp)
      have h2 : (i - n0) / 64 < ops.length := by simpa using this
      rw [Nat.div_lt_iff_lt_mul (by omega)] at h2
      omega
  · intro listed a w i hI hi
    rw [mem_ready] at hi
    obtain ⟨hun, o, ho, hedges⟩ := hi
    have ho' : ops[i]? = some o := by simpa using ho
    have hil : i < ops.length := (List.getElem?_eq_some_iff.1 ho').1
    have his : i < listed.size := by rw [hI.size]; exact hil
    obtain ⟨φ, im, hR, hF⟩ := hI.rel
    have hSi : (fun k => listed.getD k false) i = false := by
      show listed.getD i false = false
      rw [Array.getD_eq_getD_getElem?, Array.getElem?_eq_getElem his] at hun ⊢
      simpa using hun
    have hdown := hI.down
    have hsize := hI.size
    have hplus := getD_set_plus his
    have hedges' : ∀ e ∈ o.after.toList, Region.binds .any e = true → (fun k => listed.getD k false) e.on = true := fun e he hb => hedges e (by simpa using he) hb
    have hdown' : ∀ (k : Nat) (o : Oper), ops[k]? = some o → (fun k => listed.getD k false) k = true → ∀ e ∈ o.after.toList, Region.binds .any e = true → (fun k => listed.getD k false) e.on = true := hdown
    generalize hSdef : (fun k => listed.getD k false) = S at *
    -- what an edge says of those that have come up
    have bitS : ∀ j k, S j = true → ((masks [] ops).getD j 0).testBit k = true → S k = true :=
      masks_bit (S := fun k => S k = true) ops [] (fun k o' h1 h2 => hdown' k o' h1 (by simpa using h2)) (fun k i _ hk => by simp at hk)
    have bitI : ∀ k, ((masks [] ops).getD i 0).testBit k = true → S k = true ∨ k = i := by
      intro k hk
      have := masks_bit (S := fun k => S k = true ∨ k = i) ops [] (fun k' o' h1 h2 e he hb => by
        simp only [List.length_nil, Nat.zero_add] at h2
        rcases h2 with h2 | h2
        · exact .inl (hdown' k' o' h1 h2 e he hb)
        · subst h2
          rw [ho'] at h1
          cases h1
          exact .inl (hedges' e he hb)) (fun k i _ hk => by simp at hk) i k (.inr rfl) hk
      exact this
    have hlenE : envAt ops ef env0 (fun _ => true) i = envAt ops ef env0 (fun m => decide (m < i)) ops.length := by
      have := envAt_lt (ops := ops) (ef := ef) (env0 := env0) i (ops.length - i)
      rw [show i + (ops.length - i) = ops.length by omega] at this
      exact this.symm
    have hlenH : heapAt ef h0 (fun _ => true) i = heapAt ef h0 (fun m => decide (m < i)) ops.length := by
      have := heapAt_lt (ef := ef) (h0 := h0) i (ops.length - i)
      rw [show i + (ops.length - i) = ops.length by omega] at this
      exact this.symm
    -- before, after, apart
    have rel_lt : ∀ (m : Nat) (om : Oper), ops[m]? = some om → m < i → S m = true ∨ indepB ops om ⟨(ef m).wr.map (·.1), (ef m).rd⟩ o ⟨(ef i).wr.map (·.1), (ef i).rd⟩ = true := by
      intro m om hom hmi
      rcases O.pair m i om o hmi hom ho' with h | h
      · rcases bitI m h with h | h
        · exact .inl h
        · omega
      · exact .inr h
    have rel_gt : ∀ (m : Nat) (om : Oper), ops[m]? = some om → i < m → S m = false ∨ indepB ops o ⟨(ef i).wr.map (·.1), (ef i).rd⟩ om ⟨(ef m).wr.map (·.1), (ef m).rd⟩ = true := by
      intro m om hom hmi
      rcases O.pair i m o om hmi ho' hom with h | h
      · cases hSm : S m with
        | false => exact .inl rfl
        | true => rw [bitS m i hSm h] at hSi; cases hSi
      · exact .inr h
    have hev : sOp C ops (envAt ops ef env0 S ops.length) (heapAt ef h0 S ops.length) (n0 + 64 * i) o = some (ef i) := by
      refine sOp_same (T.step i o ho') ?_ ?_
      · intro t ht
        rw [hlenE]
        refine envAt_congr _ fun m hm hd => ?_
        have hom : ops[m]? = some ops[m] := by simp [hm]
        have hdm : ops[m].dst = some t := by simpa [dstAt, hom] using hd
        rcases Nat.lt_trichotomy m i with h | h | h
        · have e : decide (m < i) = true := by simpa using h
          rw [e]
          rcases rel_lt m _ hom h with g | g
          · exact g
          · simp only [indepB, Bool.and_eq_true] at g
            exact absurd ht (apartL_is g.1.1.1.1 (by simp [hdm]))
        · subst h
          rw [hSi]; simp
        · have e : decide (m < i) = false := by simp; omega
          rw [e]
          rcases rel_gt m _ hom h with g | g
          · exact g
          · simp only [indepB, Bool.and_eq_true] at g
            exact absurd ht (apartL_is g.1.1.2 (by simp [hdm]))
      · intro x hx
        rw [hlenH]
        refine heapAt_congr _ fun m hm hd => ?_
        have hom : ops[m]? = some ops[m] := by simp [hm]
        rcases Nat.lt_trichotomy m i with h | h | h
        · have e : decide (m < i) = true := by simpa using h
          rw [e]
          rcases rel_lt m _ hom h with g | g
          · exact g
          · simp only [indepB, Bool.and_eq_true] at g
            exact absurd (List.mem_append.2 (.inl hx)) (apartL_is g.1.2 hd)
        · subst h
          rw [hSi]; simp
        · have e : decide (m < i) = false := by simp; omega
          rw [e]
          rcases rel_gt m _ hom h with g | g
          · exact g
          · simp only [indepB, Bool.and_eq_true] at g
            exact absurd hx (apartL_is g.2 hd)
    have hwin : ∀ id, n0 + 64 * i ≤ id → id < n0 + 64 * i + 64 → (id - n0) / 64 = i := fun id h1 h2 => by
      rw [Nat.div_eq_iff (by omega)]; omega
    refine sOp_sound hO ho' hR (fun d hd => T.dst i o d ho' hd) ?_ ?_ hev (T.ok i hil) fun a' w' φ' im' hφ' him' hnews hR' => ?_
    · intro id h1 h2
      cases hp : φ id with
      | none => rfl
      | some l =>
        have := hF id (by omega) (by rw [hp]; simp)
        rw [hwin id h1 h2, hSi] at this
        cases this
    · intro id h1 h2
      cases hp : heapAt ef h0 S ops.length id with
      | none => rfl
      | some l =>
        exfalso
        rcases heapAt_some _ (by rw [hp]; simp) with g | ⟨m, g1, g2, g3⟩
        · exact g (fh id (by omega))
        · have := O.win m g1 id (.inr g3)
          unfold winB at this
          rw [hwin id h1 h2] at this
          simp only [Bool.or_eq_true, Nat.blt_eq] at this
          rcases this with g | g | g
          · omega
          · have : i = m := Nat.eq_of_beq_eq_true g
            subst this
            rw [hSi] at g2; cases g2
          · rw [bitS m i g2 g] at hSi; cases hSi
    · refine ⟨⟨φ', im', ?_, ?_⟩, by simpa using hsize, ?_⟩
      · rw [hplus]
        rw [envAt_plus hSi _ hil, heapAt_plus hSi _ hil]
        · have : dstAt ops i = o.dst := by simp [dstAt, ho']
          rw [this]
          exact hR'
        · intro m h1 h2 h3 x hx hx'
          have hom : ops[m]? = some ops[m] := by simp [h2]
          rcases rel_gt m _ hom h1 with g | g
          · rw [h3] at g; cases g
          · simp only [indepB, Bool.and_eq_true] at g
            exact absurd (List.mem_append.2 (.inr hx)) (apartL_is g.1.2 hx')
        · intro m h1 h2 h3 t hd hd'
          have hom : ops[m]? = some ops[m] := by simp [h2]
          rcases rel_gt m _ hom h1 with g | g
          · rw [h3] at g; cases g
          · simp only [indepB, Bool.and_eq_true] at g
            have e1 : ops[m].dst = some t := by simpa [dstAt, hom] using hd
            have e2 : o.dst = some t := by simpa [dstAt, ho'] using hd'
            exact absurd (show t ∈ ops[m].dst.toList by simp [e1]) (apartL_is g.1.1.1.2 (by simp [e2]))
      · rw [hplus]
        intro id h1 h2
        rcases hnews id h2 with g | ⟨g1, g2⟩
        · have := hF id h1 g
          by_cases hk : (id - n0) / 64 = i
          · rw [hk]; exact plus_self _ _
          · rw [plus_other _ hk]; exact this
        · rw [hwin id g1 g2]; exact plus_self _ _
      · intro k ok hok hl e he hb
        have hfun : ∀ k, (listed.setIfInBounds i true).getD k false = plus S i k := fun k => congrFun hplus k
        have hl' : plus S i k = true := by rw [← hfun]; exact hl
        show (listed.setIfInBounds i true).getD e.on false = true
        have goal' : plus S i e.on = true := by
          have hon : S e.on = true := by
            by_cases hk : k = i
            · subst hk
              rw [ho'] at hok
              cases hok
              exact hedges' e he hb
            · rw [plus_other _ hk] at hl'
              exact hdown' k ok hok hl' e he hb
          by_cases hk : e.on = i
          · rw [hk]; exact plus_self _ _
          · rw [plus_other _ hk]; exact hon
        rw [hfun]
        exact goal'
  · have hrep : ∀ k, (Array.replicate ops.length false).getD k false = false := by
      intro k
      rw [Array.getD_eq_getD_getElem?]
      by_cases hk : k < ops.length
      · simp [hk]
      · simp [hk]
    have e0 : (fun k => (Array.replicate ops.toArray.size false).getD k false) = fun _ => false := by
      funext k; simpa using hrep k
    refine ⟨⟨φ, im, ?_, ?_⟩, by simp, ?_⟩
    · rw [e0]
      have e1 : envAt ops ef env0 (fun _ => false) ops.length = env0 := funext fun t => by
        rw [show ops.length = 0 + ops.length by omega]
        generalize ops.length = m
        induction m with
        | zero => rfl
        | succ m ih => exact ih
      have e2 : heapAt ef h0 (fun _ => false) ops.length = h0 := funext fun t => by
        generalize ops.length = m
        induction m with
        | zero => rfl
        | succ m ih => exact ih
      rw [e1, e2]
      exact ⟨R.hrep.heap_eq rfl, R.env, R.size, R.defers, R.below.drew⟩
    · intro id h1 h2
      exact absurd (fφ id h1) h2
    · intro k o _ hl
      have : (fun k => (Array.replicate ops.toArray.size false).getD k false) k = true := hl
      rw [e0] at this
      cases this
  · simp
end
end Go.Eng

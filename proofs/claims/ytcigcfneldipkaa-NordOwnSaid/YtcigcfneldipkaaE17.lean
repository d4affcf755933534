/- Engine, part 17: every order of a region that draws comes to what the text's order comes to. Condition: the contracts that the evaluator leans on hold, and the footprints allow it. -/
import Derived.Test.YtcigcfneldipkaaE16
namespace Go.Eng
open Go Go.RowKit

def tmpsOf : List Operand → List Nat
  | [] => []
  | .tmp t :: xs => t :: tmpsOf xs
  | _ :: xs => tmpsOf xs

def looksOf (ops : List Oper) (o : Oper) : List Nat :=
  tmpsOf o.op.operands.toList ++ (match o.guard with
    | some (j, _) => (gdst ops j).toList
    | none => [])

def maskOf (acc : List Nat) : List Edge → Nat
  | [] => 0
  | e :: es => bif Region.binds .any e then maskOf acc es ||| (2 ^ e.on ||| acc.getD e.on 0) else maskOf acc es

def masks : List Nat → List Oper → List Nat
  | acc, [] => acc
  | acc, o :: os => masks (acc ++ [maskOf acc o.after.toList]) os

structure Rec where
  wr : List Nat
  rd : List Nat

def apartL (xs ys : List Nat) : Bool := xs.all fun x => !ys.elem x

def indepB (ops : List Oper) (o1 : Oper) (r1 : Rec) (o2 : Oper) (r2 : Rec) : Bool :=
  apartL o1.dst.toList (looksOf ops o2) && apartL o1.dst.toList o2.dst.toList && apartL o2.dst.toList (looksOf ops o1) && apartL r1.wr (r2.rd ++ r2.wr) && apartL r2.wr r1.rd

def winB (n0 mask j id : Nat) : Bool := Nat.blt id n0 || (Nat.beq ((id - n0) / 64) j || mask.testBit ((id - n0) / 64))

/-- May the operations come up in any order that their edges allow? -/
def orderB (ops : List Oper) (n0 : Nat) (ms : List Nat) (rs : List Rec) : Bool :=
  (List.range ops.length).all fun j =>
    match ops[j]?, rs[j]? with
    | some oj, some rj =>
      (oj.after.toList.all fun e => !Region.binds .any e || Nat.blt e.on j) &&
      ((rj.rd ++ rj.wr).all fun id => winB n0 (ms.getD j 0) j id) &&
      (List.range j).all fun i => (ms.getD j 0).testBit i ||
        match ops[i]?, rs[i]? with
        | some oi, some ri => indepB ops oi ri oj rj
        | _, _ => false
    | _, _ => false

theorem apartL_is {xs ys : List Nat} (h : apartL xs ys = true) {x : Nat} (hx : x ∈ xs) : x ∉ ys := by
  unfold apartL at h
  rw [List.all_eq_true] at h
  have := h x hx
  simpa using this

theorem tmpsOf_mem : ∀ {xs : List Operand} {t : Nat}, Operand.tmp t ∈ xs → t ∈ tmpsOf xs
  | x :: xs, t, h => by
    simp only [List.mem_cons] at h
    rcases h with h | h
    · subst h; simp [tmpsOf]
    · have := tmpsOf_mem h
      cases x <;> simp [tmpsOf, this]

theorem maskOf_bit {acc : List Nat} {S : Nat → Prop} (hacc : ∀ e i, S e → (acc.getD e 0).testBit i = true → S i) : ∀ (es : List Edge), (∀ e ∈ es, Region.binds .any e = true → S e.on) → ∀ i, (maskOf acc es).testBit i = true → S i
  | [], _, i, h => by simp [maskOf] at h
  | e :: es, he, i, h => by
    simp only [maskOf] at h
    cases hb : Region.binds .any e with
    | false =>
      rw [hb] at h
      exact maskOf_bit hacc es (fun e' h' => he e' (by simp [h'])) i h
    | true =>
      rw [hb] at h
      simp only [cond_true, Nat.testBit_or, Bool.or_eq_true] at h
      have hon := he e (by simp) hb
      rcases h with h | h | h
      · exact maskOf_bit hacc es (fun e' h' => he e' (by simp [h'])) i h
      · rw [Nat.testBit_two_pow] at h
        have : e.on = i := by simpa using h
        rw [← this]; exact hon
      · exact hacc _ _ hon h

theorem masks_bit {S : Nat → Prop} : ∀ (os : List Oper) (acc : List Nat), (∀ k o, os[k]? = some o → S (acc.length + k) → ∀ e ∈ o.after.toList, Region.binds .any e = true → S e.on) →
    (∀ k i, S k → (acc.getD k 0).testBit i = true → S i) → ∀ k i, S k → ((masks acc os).getD k 0).testBit i = true → S i
  | [], acc, _, hacc => hacc
  | o :: os, acc, h, hacc => by
    simp only [masks]
    apply masks_bit (S := S) os
    · intro k o' ho hS
      refine h (k + 1) o' (by simpa using ho) ?_
      simp only [List.length_append, List.length_cons, List.length_nil] at hS
      rw [show acc.length + (k + 1) = acc.length + (0 + 1) + k by omega]
      exact hS
    · intro k i hS hk
      rcases Nat.lt_or_ge k acc.length with hlt | hge
      · refine hacc k i hS ?_
        rw [List.getD_eq_getElem?_getD, List.getElem?_append_left hlt] at hk
        rwa [List.getD_eq_getElem?_getD]
      · by_cases hk0 : k = acc.length
        · subst hk0
          rw [List.getD_eq_getElem?_getD, List.getElem?_append_right (Nat.le_refl _)] at hk
          simp only [Nat.sub_self, List.getElem?_cons_zero, Option.getD_some] at hk
          exact maskOf_bit hacc _ (h 0 o (by simp) (by simpa using hS)) i hk
        · rw [List.getD_eq_getElem?_getD, List.getElem?_append_right hge, List.getElem?_eq_none (by simp; omega)] at hk
          simp at hk

/-- The text's order, as it was evaluated. -/
structure Text (C : Ctx) (ops : List Oper) (ef : Nat → Eff) (env0 : AEnv) (h0 : AHeap) (nt n0 : Nat) : Prop where
  step : ∀ (k : Nat) (o : Oper), ops[k]? = some o → sOp C ops (envAt ops ef env0 (fun _ => true) k) (heapAt ef h0 (fun _ => true) k) (n0 + 64 * k) o = some (ef k)
  ok : ∀ k, k < ops.length → (ef k).ok = true
  dst : ∀ (k : Nat) (o : Oper) (d : Nat), ops[k]? = some o → o.dst = some d → d < nt

theorem wantV_env {ops : List Oper} {env env' : AEnv} {o : Oper} (h : ∀ t ∈ looksOf ops o, env' t = env t) : wantV ops env' o = wantV ops env o := by
  unfold wantV
  cases hg : o.guard with
  | none => rfl
  | some p =>
    obtain ⟨j, want⟩ := p
    dsimp only
    cases hd : gdst ops j with
    | none => rfl
    | some d =>
      dsimp only
      have : env' d = env d := h d (by simp [looksOf, hg, hd])
      rw [this]

theorem opd_env {env env' : AEnv} {xs : List Operand} (h : ∀ t ∈ tmpsOf xs, env' t = env t) : ∀ x ∈ xs, opd env' x = opd env x := by
  intro x hx
  cases x with
  | tmp t => exact h t (tmpsOf_mem hx)
  | const v => rfl
  | global g => rfl
  | func f => rfl

theorem sOp_same {C : Ctx} {ops : List Oper} {env env' : AEnv} {h h' : AHeap} {n : Nat} {o : Oper} {e : Eff} (hev : sOp C ops env h n o = some e) (h1 : ∀ t ∈ looksOf ops o, env' t = env t) (h2 : ∀ i ∈ e.rd, h' i = h i) : sOp C ops env' h' n o = some e := by
  unfold sOp at *
  rw [wantV_env h1]
  cases hw : wantV ops env o with
  | none => rw [hw] at hev; cases hev
  | some b =>
    rw [hw] at hev
    cases b with
    | true =>
      dsimp only at hev ⊢
      rw [evOp_env (opd_env fun t ht => h1 t (by simp [looksOf, ht]))]
      exact evOp_heap hev h2
    | false => exact hev

section
variable {C : Ctx} {w0 : World} {ops : List Oper} {ef : Nat → Eff} {env0 : AEnv} {h0 : AHeap} {nt n0 : Nat}

/-- The places of what has not come up yet are free. -/
def FreeAt (φ : Phi) (n0 : Nat) (S : Nat → Bool) : Prop := ∀ id, n0 ≤ id → φ id ≠ none → S ((id - n0) / 64) = true

structure Inv (C : Ctx) (w0 : World) (nt : Nat) (ops : List Oper) (ef : Nat → Eff) (env0 : AEnv) (h0 : AHeap) (n0 : Nat) (listed : Array Bool) (a : Act) (w : World) : Prop where
  rel : ∃ φ im, RelF C.P w0 nt φ im (envAt ops ef env0 (fun k => listed.getD k false) ops.length) (heapAt ef h0 (fun k => listed.getD k false) ops.length) a w ∧ FreeAt φ n0 (fun k => listed.getD k false)
  size : listed.size = ops.length
  down : ∀ (k : Nat) (o : Oper), ops[k]? = some o → listed.getD k false = true → ∀ e ∈ o.after.toList, Region.binds .any e = true → listed.getD e.on false = true

theorem wpAny_of_inv {Q : Exit → Act → World → Prop} (hlast : ∀ a w, (∃ φ im, RelF C.P w0 nt φ im (envAt ops ef env0 (fun _ => true) ops.length) (heapAt ef h0 (fun _ => true) ops.length) a w ∧ FreeAt φ n0 (fun k => decide (k < ops.length))) → Q .normal a w)
    (hback : ∀ (k : Nat) (o : Oper), ops[k]? = some o → ∀ e ∈ o.after.toList, Region.binds .any e = true → e.on < k)
    (hstep : ∀ listed a w i, Inv C w0 nt ops ef env0 h0 n0 listed a w → i ∈ Region.ready .any ops.toArray listed → wpOp C.P ops.toArray Q i (fun a' w' => Inv C w0 nt ops ef env0 h0 n0 (listed.setIfInBounds i true) a' w') a w) :
    ∀ (fuel : Nat) (listed : Array Bool) (a : Act) (w : World), Inv C w0 nt ops ef env0 h0 n0 listed a w → ops.length ≤ fuel + ((List.range ops.length).filter fun k => listed.getD k false).length → wpAny C.P .any ops.toArray Q fuel listed a w := by
  have all_listed : ∀ listed a w, Inv C w0 nt ops ef env0 h0 n0 listed a w → (∀ k, k < ops.length → listed.getD k false = true) → Q .normal a w := by
    intro listed a w hI hall
    refine hlast a w ?_
    obtain ⟨φ, im, hR, hF⟩ := hI.rel
    refine ⟨φ, im, ?_, ?_⟩
    · have e1 : envAt ops ef env0 (fun k => listed.getD k false) ops.length = envAt ops ef env0 (fun _ => true) ops.length := funext fun t => envAt_congr _ fun m hm _ => hall m hm
      have e2 : heapAt ef h0 (fun k => listed.getD k false) ops.length = heapAt ef h0 (fun _ => true) ops.length := funext fun t => heapAt_congr _ fun m hm _ => hall m hm
      rw [← e1, ← e2]
      exact hR
    · intro id h1 h2
      have : listed.getD ((id - n0) / 64) false = true := hF id h1 h2
      have hlt : (id - n0) / 64 < listed.size := by
        rcases Nat.lt_or_ge ((id - n0) / 64) listed.size with h | h
        · exact h
        · rw [Array.getD_eq_getD_getElem?, Array.getElem?_eq_none h] at this; simp at this
      rw [hI.size] at hlt
      simpa using hlt
  have ready_of : ∀ listed a w, Inv C w0 nt ops ef env0 h0 n0 listed a w → ∀ k, k < ops.length → listed.getD k false = false → Region.ready .any ops.toArray listed ≠ [] := by
    intro listed a w hI k
    induction k using Nat.strongRecOn with
    | _ k ih =>
      intro hk hun hnil
      have hmem : k ∈ Region.ready .any ops.toArray listed := by
        rw [mem_ready]
        refine ⟨?_, ops[k], by simp [hk], ?_⟩
        · have : k < listed.size := by rw [hI.size]; exact hk
          rw [Array.getD_eq_getD_getElem?, Array.getElem?_eq_getElem this] at hun ⊢
          simpa using hun
        · intro e he hb
          have hlt := hback k ops[k] (by simp [hk]) e (by simpa using he) hb
          cases hl : listed.getD e.on false with
          | true => rfl
          | false => exact absurd hnil (ih e.on hlt (by omega) hl)
      rw [hnil] at hmem
      cases hmem
  intro fuel
  induction fuel with
  | zero =>
    intro listed a w hI hc
    have hall : ∀ k, k < ops.length → listed.getD k false = true := by
      intro k hk
      have hlen : ((List.range ops.length).filter fun k => listed.getD k false).length = (List.range ops.length).length := by
        have := List.length_filter_le (fun k => listed.getD k false) (List.range ops.length)
        simp only [List.length_range] at *
        omega
      have := (List.length_filter_eq_length_iff.1 hlen) k (by simpa using hk)
      exact this
    refine ⟨?_, all_listed listed a w hI hall⟩
    apply List.eq_nil_iff_forall_not_mem.2
    intro k hk
    rw [mem_ready] at hk
    obtain ⟨h1, o, ho, _⟩ := hk
    have hk' : k < ops.length := by
      have := (Array.getElem?_eq_some_iff.1 ho).1
      simpa using this
    have := hall k hk'
    have hs : k < listed.size := by rw [hI.size]; exact hk'
    rw [Array.getD_eq_getD_getElem?, Array.getElem?_eq_getElem hs] at h1 this
    simp at h1 this
    rw [h1] at this
    cases this
  | succ fuel ih =>
    intro listed a w hI hc
    refine ⟨fun hnil => all_listed listed a w hI fun k hk => ?_, fun i hi => ?_⟩
    · cases hl : listed.getD k false with
      | true => rfl
      | false => exact absurd hnil (ready_of listed a w hI k hk hl)
    · refine wpOp_mono (fun a' w' hI' => ih _ a' w' hI' ?_) (hstep listed a w i hI hi)
      rw [mem_ready] at hi
      obtain ⟨h1, o, ho, _⟩ := hi
      have hi' : i < ops.length := by
        have := (Array.getElem?_eq_some_iff.1 ho).1
        simpa using this
      have hs : i < listed.size := by rw [hI.size]; exact hi'
      have key : ((List.range ops.length).filter fun k => listed.getD k false).length + 1 ≤ ((List.range ops.length).filter fun k => (listed.setIfInBounds i true).getD k false).length := by
        have hfun : ∀ k, (listed.setIfInBounds i true).getD k false = plus (fun k => listed.getD k false) i k := by
          intro k
          by_cases hk : k = i
          · subst hk
            rw [plus_self, Array.getD_eq_getD_getElem?, Array.getElem?_setIfInBounds_self_of_lt hs]
            rfl
          · rw [plus_other _ hk, Array.getD_eq_getD_getElem?, Array.getElem?_setIfInBounds_ne (Ne.symm hk), Array.getD_eq_getD_getElem?]
        have hun : (fun k => listed.getD k false) i = false := by
          show listed.getD i false = false
          rw [Array.getD_eq_getD_getElem?, Array.getElem?_eq_getElem hs] at h1 ⊢
          simpa using h1
        simp only [hfun]
        clear hc hI' ih hfun h1 ho hs
        generalize (fun k => listed.getD k false) = S at *
        have gen : ∀ (l : List Nat), l.Nodup → i ∈ l → (l.filter S).length + 1 ≤ (l.filter (plus S i)).length := by
          intro l
          induction l with
          | nil => intro _ h; cases h
          | cons x l ihl =>
            intro hnd hmem
            rw [List.nodup_cons] at hnd
            by_cases hx : x = i
            · subst hx
              have hsame : l.filter (plus S x) = l.filter S := by
                apply List.filter_congr
                intro y hy
                exact plus_other S (fun e => hnd.1 (e ▸ hy))
              rw [List.filter_cons, List.filter_cons, plus_self, hun, hsame]
              simp
            · have hmem' : i ∈ l := by
                simp only [List.mem_cons] at hmem
                rcases hmem with h | h
                · exact absurd h.symm hx
                · exact h
              have := ihl hnd.2 hmem'
              rw [List.filter_cons, List.filter_cons, plus_other S hx]
              cases S x <;> simp <;> omega
        exact gen _ List.nodup_range (by simpa using hi')
      omega

end
end Go.Eng

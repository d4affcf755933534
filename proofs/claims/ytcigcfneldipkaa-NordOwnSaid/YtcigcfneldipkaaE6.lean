/- Engine, part 6: the plain operations, their soundness. Condition: what the evaluator says must hold, holds. -/
import Derived.Test.YtcigcfneldipkaaE5
namespace Go.Eng
open Go Go.RowKit

/-- A run that yields a value that stands for x, and leaves memory as it is. -/
def Plain (P : Program) (φ : Phi) (im : Im) (w : World) (s : Sem Value) (x : AV) : Prop :=
  ∃ r w', s.run P w = .ok r w' ∧ (w' = w ∨ w' = w.drew) ∧ V im φ x r

section
variable {P : Program} {φ : Phi} {im : Im} {w : World}

theorem Plain.pure {v : Value} {x : AV} (h : V im φ x v) : Plain P φ im w (Pure.pure v) x := ⟨v, w, rfl, .inl rfl, h⟩

theorem Plain.of {s : Sem Value} {v : Value} {x : AV} (e : s.run P w = .ok v w) (h : V im φ x v) : Plain P φ im w s x := ⟨v, w, e, .inl rfl, h⟩

theorem pur_ok {x : AV} {e : Eff} (h : pur x = some e) : e = ⟨x, [], [], true⟩ := by cases h; rfl
theorem purIf_ok {x : AV} {c : Bool} {e : Eff} (h : purIf x c = some e) : e = ⟨x, [], [], c⟩ := by cases h; rfl

theorem int_of {x : AV} {k : IntKind} {n : Int} {v : Value} (e : x = .int k n) (h : V im φ x v) : v = .int k n := by subst e; cases h; rfl

theorem intV_sound {op : BinOp} {k : IntKind} {a b : Int} {e : Eff} (hs : isShift op = false) (h : intV op k a b = some e) (hok : e.ok = true) (t : TypeId) :
    Plain P φ im w (binOp op t (.int k a) (.int k b)) e.val ∧ e.wr = [] := by
  cases op <;> simp only [intV, isShift, reduceCtorEq] at h hs <;> first | (cases h; done) | skip
  all_goals cases h
  all_goals refine ⟨Plain.of (v := ?_) ?_ ?_, rfl⟩
  all_goals first
    | exact V.int _ _ _
    | exact V.bool _ _
    | skip
  all_goals first
    | (simp [binOp, Op.intArith, Op.intBits, Op.intCmp]; done)
    | (have hb : b ≠ 0 := by simpa using hok
       simp [binOp, Op.intDiv, hb])

theorem shiftV_sound {op : BinOp} {k k' : IntKind} {a b : Int} {e : Eff} (h : shiftV op k a b = some e) (hok : e.ok = true) (t : TypeId) :
    Plain P φ im w (binOp op t (.int k a) (.int k' b)) e.val ∧ e.wr = [] := by
  cases op <;> simp only [shiftV, reduceCtorEq] at h <;> first | (cases h; done) | skip
  all_goals cases h
  all_goals have hb : ¬ b < 0 := by have : 0 ≤ b := by simpa using hok
                                    omega
  all_goals exact ⟨Plain.of (by simp [binOp, Op.shift, hb]) (V.int _ _ _), rfl⟩

theorem fltV_sound {op : BinOp} {a b : Nat} {e : Eff} (h : fltV op (canon a) (canon b) = some e) (t : TypeId) :
    Plain P φ im w (binOp op t (.float .f64 a) (.float .f64 b)) e.val ∧ e.wr = [] := by
  have ar : ∀ op', (op' = .add ∨ op' = .sub ∨ op' = .mul ∨ op' = .quo) → Plain P φ im w (Op.floatArith op' .f64 a b) (.flt (farith op' (canon a) (canon b))) := by
    intro op' ho
    obtain ⟨r, w', h1, h2, h3, h4⟩ := run_farith (P := P) op' ho a b w
    exact ⟨_, w', h1, h2, h4 ▸ V.flt _ r h3⟩
  cases op <;> simp only [fltV, reduceCtorEq] at h <;> first | (cases h; done) | skip
  all_goals cases h
  case add => exact ⟨ar .add (by simp), rfl⟩
  case sub => exact ⟨ar .sub (by simp), rfl⟩
  case mul => exact ⟨ar .mul (by simp), rfl⟩
  case quo => exact ⟨ar .quo (by simp), rfl⟩
  all_goals exact ⟨Plain.of (by simp only [binOp, Op.floatCmp, ne_eq, not_true_eq_false, if_false]; rfl) (by simp only [feq, fne, flt, fle, fgt, fge, order_canon]; exact V.bool _ _), rfl⟩

theorem strV_sound {op : BinOp} {a b : ByteArray} {e : Eff} (h : strV op a b = some e) (hok : e.ok = true) (t : TypeId) :
    Plain P φ im w (binOp op t (.string a) (.string b)) e.val ∧ e.wr = [] := by
  cases op <;> simp only [strV, reduceCtorEq] at h <;> first | (cases h; done) | skip
  all_goals cases h
  case add =>
    have hl : a.size + b.size ≤ 9223372036854775807 := by simpa using hok
    have hn : ¬ (((a.size + b.size : Nat) : Int) > IntKind.i64.max) := by
      have : IntKind.i64.max = 9223372036854775807 := by decide
      rw [this]; omega
    exact ⟨Plain.of (by simp only [binOp, Op.stringOp]; rw [if_neg hn]; rfl) (V.str _ _), rfl⟩
  all_goals exact ⟨Plain.of (by simp only [binOp, Op.stringOp]; rfl) (V.bool _ _), rfl⟩

theorem equal_bool {t : TypeId} (ht : P.underlying t = some .bool) (a b : Bool) (w : World) : (Op.equal t (.bool a) (.bool b)).run P w = .ok (a == b) w := by
  show (Op.equalIn (9999 + 1) t _ _).run P w = _
  unfold Op.equalIn
  simp only [Sem.run_bind, run_underlying ht, Result.andThen_ok, Sem.run_pure]

theorem binV_sound {op : BinOp} {t : TypeId} {x y : AV} {v u : Value} {e : Eff} (h : binV P op t x y = some e) (hok : e.ok = true) (hx : V im φ x v) (hy : V im φ y u) (ox oy : Operand) :
    Plain P φ im w (do eqGuard op t ox oy v u; binOp op t v u) e.val ∧ e.wr = [] := by
  cases hx <;> cases hy <;> simp only [binV, reduceCtorEq] at h <;> first | (cases h; done) | skip
  case int.int k a k' b =>
    have hg : ∀ s : Sem Value, (do eqGuard op t ox oy (.int k a) (.int k' b); s).run P w = s.run P w := by
      intro s; unfold eqGuard; cases op <;> simp
    unfold Plain
    rw [hg]
    cases hs : isShift op with
    | true =>
      rw [hs] at h
      exact shiftV_sound h hok t
    | false =>
      rw [hs] at h
      by_cases hk : k = k'
      · subst hk
        simp only [decide_true, cond_true, cond_false] at h
        exact intV_sound hs h hok t
      · simp [hk] at h
  case flt.flt a ha b hb =>
    have hg : ∀ s : Sem Value, (do eqGuard op t ox oy (.float .f64 a) (.float .f64 b); s).run P w = s.run P w := by
      intro s; unfold eqGuard; cases op <;> simp
    unfold Plain
    rw [hg]
    exact fltV_sound h t
  case str.str a b =>
    have hg : ∀ s : Sem Value, (do eqGuard op t ox oy (.string a) (.string b); s).run P w = s.run P w := by
      intro s; unfold eqGuard; cases op <;> simp
    unfold Plain
    rw [hg]
    exact strV_sound h hok t
  case bool.bool a b =>
    have hg : ∀ s : Sem Value, (do eqGuard op t ox oy (.bool a) (.bool b); s).run P w = s.run P w := by
      intro s; unfold eqGuard; cases op <;> simp
    unfold Plain
    rw [hg]
    unfold boolB at h
    split at h
    · rename_i ht
      cases op <;> simp only [cond_true, reduceCtorEq] at h <;> first | (cases h; done) | skip
      all_goals cases h
      all_goals exact ⟨Plain.of (by simp only [binOp, Sem.run_bind, equal_bool ht, Result.andThen_ok, Sem.run_pure]) (V.bool _ _), rfl⟩
    · cases h

theorem nanB_flip (b : Nat) (h : b < 18446744073709551616) : nanB (b ^^^ 9223372036854775808) = nanB b ∧ b ^^^ 9223372036854775808 < 18446744073709551616 := by
  have h1 : b ^^^ 9223372036854775808 < 2 ^ 64 := Nat.xor_lt_two_pow (by omega) (by omega)
  refine ⟨?_, by omega⟩
  have h2 : (b ^^^ 9223372036854775808) % 9223372036854775808 = b % 9223372036854775808 := by
    have := Nat.xor_mod_two_pow (a := b) (b := 9223372036854775808) (n := 63)
    simpa using this
  unfold nanB
  rw [h2]

theorem unV_sound {op : UnOp} {x : AV} {v : Value} {e : Eff} (h : unV op x = some e) (hx : V im φ x v) : Plain P φ im w (Op.unary op v) e.val ∧ e.wr = [] := by
  cases hx <;> cases op <;> simp only [unV, reduceCtorEq] at h <;> first | (cases h; done) | skip
  all_goals cases h
  case bool.not b => exact ⟨Plain.pure (V.bool _ _), rfl⟩
  case int.neg k n => exact ⟨Plain.of (v := .int k (k.wrap (0 - n))) (by simp [Op.unary, Op.intArith]) (V.int _ _ _), rfl⟩
  case flt.neg b hb =>
    obtain ⟨h1, h2⟩ := nanB_flip b hb
    refine ⟨Plain.of (v := .float .f64 (b ^^^ 9223372036854775808)) rfl ?_, rfl⟩
    have : fneg (canon b) = canon (b ^^^ 9223372036854775808) := by
      unfold fneg
      rw [nanB_canon]
      cases hn : nanB b with
      | true => rw [canon_of (h1.trans hn)]; rfl
      | false => rw [canon_of_not (h1.trans hn), canon_of_not hn]; rfl
    show V im φ (.flt (fneg (canon b))) _
    rw [this]
    exact V.flt _ _ h2

theorem toInt_canon (b : Nat) : (Ieee.double.read (canon b)).toInt .zero = (Ieee.double.read b).toInt .zero := by
  cases h : nanB b with
  | false => rw [canon_of_not h]
  | true =>
    have k : ∀ d : Ieee.Datum, d.isNaN = true → d.toInt .zero = none := by
      intro d hd; cases d <;> simp_all [Ieee.Datum.isNaN, Ieee.Datum.toInt, Ieee.Datum.integral]
    rw [k _ (by rw [isNaN_canon, isNaN_read]; exact h), k _ (by rw [isNaN_read]; exact h)]

theorem convV_sound {src dst : TypeId} {x : AV} {v : Value} {e : Eff} (h : convV P src dst x = some e) (hok : e.ok = true) (hx : V im φ x v) : Plain P φ im w (convert src dst v) e.val ∧ e.wr = [] := by
  unfold convV at h
  split at h
  · rename_i k1 k2 k n h1 h2
    cases h; cases hx
    exact ⟨Plain.of (v := .int k2 (k2.wrap n)) (by simp [convert, run_underlying h1, run_underlying h2, Conv.intToInt]) (V.int _ _ _), rfl⟩
  · rename_i k1 k n h1 h2
    cases h; cases hx
    refine ⟨Plain.of (v := .float .f64 (fofint n)) (by simp [convert, run_underlying h1, run_underlying h2, Conv.intToFloat, fofint]) ?_, rfl⟩
    have := V.flt (im := im) φ (fofint n) (fofint_lt n)
    rwa [canon_of_not (fofint_is n)] at this
  · rename_i k a h1 h2
    cases h
    cases hx with
    | flt _ b hb =>
      have hok' : fcutOk k (canon b) = true := hok
      unfold fcutOk at hok'
      rw [toInt_canon] at hok'
      cases hd : (Ieee.double.read b).toInt .zero with
      | none => rw [hd] at hok'; cases hok'
      | some n =>
        rw [hd] at hok'
        have hb2 : k.min ≤ n ∧ n ≤ k.max := by simpa using hok'
        have hd' : (FloatKind.f64.decode b).toInt .zero = some n := hd
        refine ⟨Plain.of (v := .int k n) (by simp [convert, run_underlying h1, run_underlying h2, Conv.floatToInt, hd', hb2]) ?_, rfl⟩
        have : fcut (canon b) = n := by unfold fcut; rw [toInt_canon, hd]; rfl
        rw [this]
        exact V.int _ _ _
  · rename_i a h1 h2
    cases h
    cases hx with
    | flt _ b hb => exact ⟨Plain.of (v := .float .f64 b) (by simp [convert, run_underlying h1, run_underlying h2, Conv.floatToFloat]) (V.flt _ b hb), rfl⟩
  · rename_i s h1 h2
    cases h
    cases hx
    exact ⟨Plain.of (v := .string s) (by simp [convert, run_underlying h1, run_underlying h2]) (V.str _ _), rfl⟩
  · cases h
end
end Go.Eng

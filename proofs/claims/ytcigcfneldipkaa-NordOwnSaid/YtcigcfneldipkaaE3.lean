/- Engine, part 3: arithmetic on canonical floats, and what the machine does with any bits. No condition but that the bits fit 64. -/
import Derived.Test.YtcigcfneldipkaaE2
namespace Go.Eng
open Go Go.RowKit

def fadd (x y : Nat) : Nat := (Ieee.double.add x y).getD qnan
def fsub (x y : Nat) : Nat := (Ieee.double.sub x y).getD qnan
def fmul (x y : Nat) : Nat := (Ieee.double.mul x y).getD qnan
def fdiv (x y : Nat) : Nat := (Ieee.double.div x y).getD qnan
def fneg (x : Nat) : Nat := bif nanB x then qnan else x ^^^ 9223372036854775808
def feq (x y : Nat) : Bool := Ieee.double.order x y == some .eq
def fne (x y : Nat) : Bool := Ieee.double.order x y != some .eq
def flt (x y : Nat) : Bool := Ieee.double.order x y == some .lt
def fle (x y : Nat) : Bool := Ieee.double.order x y == some .lt || Ieee.double.order x y == some .eq
def fgt (x y : Nat) : Bool := Ieee.double.order x y == some .gt
def fge (x y : Nat) : Bool := Ieee.double.order x y == some .gt || Ieee.double.order x y == some .eq
def fofint (n : Int) : Nat := FloatKind.f64.nearest n

theorem sw64 : Ieee.double.signWeight = 9223372036854775808 := by decide +kernel
theorem bi64 : Ieee.double.binade = 4503599627370496 := by decide +kernel
theorem in64 : Ieee.double.infRung = 9218868437227405312 := by decide +kernel

theorem isNaN_read (b : Nat) : (Ieee.double.read b).isNaN = nanB b := by
  unfold Ieee.Format.read nanB
  simp only [sw64, bi64, in64]
  have h := Nat.mod_lt b (show 0 < 9223372036854775808 by omega)
  split
  · rw [Bool.eq_iff_iff]; simp [Ieee.Datum.isNaN]; omega
  · split
    · rw [Bool.eq_iff_iff]; simp [Ieee.Datum.isNaN]; omega
    · split
      · rw [Bool.eq_iff_iff]; simp [Ieee.Datum.isNaN]; omega
      · rw [Bool.eq_iff_iff]; simp [Ieee.Datum.isNaN]; omega

theorem nanB_qnan : nanB qnan = true := by decide +kernel
theorem nanB_canon (b : Nat) : nanB (canon b) = nanB b := by
  unfold canon
  cases h : nanB b with
  | true => simp [nanB_qnan]
  | false => simp [h]
theorem canon_of_not {b : Nat} (h : nanB b = false) : canon b = b := by simp [canon, h]
theorem canon_of {b : Nat} (h : nanB b = true) : canon b = qnan := by simp [canon, h]
theorem canon_canon (b : Nat) : canon (canon b) = canon b := by
  cases h : nanB b with
  | true => rw [canon_of h]; exact canon_of nanB_qnan
  | false => rw [canon_of_not h, canon_of_not h]

theorem isNaN_canon (b : Nat) : (Ieee.double.read (canon b)).isNaN = (Ieee.double.read b).isNaN := by rw [isNaN_read, isNaN_read, nanB_canon]

/-- What looks at its operands by 'read' alone, and answers 'none' at a NaN, does not see which NaN it is. -/
theorem two_canon {α : Type} (f : Ieee.Datum → Ieee.Datum → Option α) (h1 : ∀ x y, x.isNaN = true → f x y = none) (h2 : ∀ x y, y.isNaN = true → f x y = none) (a b : Nat) :
    f (Ieee.double.read (canon a)) (Ieee.double.read (canon b)) = f (Ieee.double.read a) (Ieee.double.read b) := by
  cases ha : nanB a with
  | true => rw [h1 _ _ (by rw [isNaN_canon, isNaN_read]; exact ha), h1 _ _ (by rw [isNaN_read]; exact ha)]
  | false =>
    rw [canon_of_not ha]
    cases hb : nanB b with
    | true => rw [h2 _ _ (by rw [isNaN_canon, isNaN_read]; exact hb), h2 _ _ (by rw [isNaN_read]; exact hb)]
    | false => rw [canon_of_not hb]

theorem sum_nan1 (x y : Ieee.Datum) (h : x.isNaN = true) : x.sum y = none := by cases x <;> simp_all [Ieee.Datum.isNaN, Ieee.Datum.sum]
theorem sum_nan2 (x y : Ieee.Datum) (h : y.isNaN = true) : x.sum y = none := by cases y <;> cases x <;> simp_all [Ieee.Datum.isNaN, Ieee.Datum.sum]
theorem opp_nan (x : Ieee.Datum) : x.opposite.isNaN = x.isNaN := by cases x <;> simp [Ieee.Datum.isNaN, Ieee.Datum.opposite]
theorem product_nan1 (x y : Ieee.Datum) (h : x.isNaN = true) : x.product y = none := by cases x <;> simp_all [Ieee.Datum.isNaN, Ieee.Datum.product]
theorem product_nan2 (x y : Ieee.Datum) (h : y.isNaN = true) : x.product y = none := by cases y <;> cases x <;> simp_all [Ieee.Datum.isNaN, Ieee.Datum.product]
theorem quotient_nan1 (n : Nat) (x y : Ieee.Datum) (h : x.isNaN = true) : Ieee.Datum.quotient n x y = none := by cases x <;> simp_all [Ieee.Datum.isNaN, Ieee.Datum.quotient]
theorem quotient_nan2 (n : Nat) (x y : Ieee.Datum) (h : y.isNaN = true) : Ieee.Datum.quotient n x y = none := by cases y <;> cases x <;> simp_all [Ieee.Datum.isNaN, Ieee.Datum.quotient]
theorem order_nan1 (x y : Ieee.Datum) (h : x.isNaN = true) : x.order y = none := by cases x <;> simp_all [Ieee.Datum.isNaN, Ieee.Datum.order]
theorem order_nan2 (x y : Ieee.Datum) (h : y.isNaN = true) : x.order y = none := by cases y <;> cases x <;> simp_all [Ieee.Datum.isNaN, Ieee.Datum.order]

theorem add_canon (a b : Nat) : Ieee.double.add (canon a) (canon b) = Ieee.double.add a b :=
  two_canon (fun x y => (x.sum y).map Ieee.double.write) (fun x y h => by simp [sum_nan1 x y h]) (fun x y h => by simp [sum_nan2 x y h]) a b
theorem sub_canon (a b : Nat) : Ieee.double.sub (canon a) (canon b) = Ieee.double.sub a b :=
  two_canon (fun x y => (x.sum y.opposite).map Ieee.double.write) (fun x y h => by simp [sum_nan1 _ _ h]) (fun x y h => by rw [sum_nan2 _ _ (by rw [opp_nan]; exact h)]; rfl) a b
theorem mul_canon (a b : Nat) : Ieee.double.mul (canon a) (canon b) = Ieee.double.mul a b :=
  two_canon (fun x y => (x.product y).map Ieee.double.write) (fun x y h => by simp [product_nan1 x y h]) (fun x y h => by simp [product_nan2 x y h]) a b
theorem div_canon (a b : Nat) : Ieee.double.div (canon a) (canon b) = Ieee.double.div a b :=
  two_canon (fun x y => (x.quotient (Ieee.double.fractionBits + 2) y).map Ieee.double.write) (fun x y h => by simp [quotient_nan1 _ x y h]) (fun x y h => by simp [quotient_nan2 _ x y h]) a b
theorem order_canon (a b : Nat) : Ieee.double.order (canon a) (canon b) = Ieee.double.order a b :=
  two_canon (fun x y => x.order y) (fun x y h => order_nan1 x y h) (fun x y h => order_nan2 x y h) a b

theorem nanB_word (neg : Bool) (r : Nat) (h : r ≤ 9218868437227405312) : nanB (Ieee.double.word neg r) = false := by
  unfold Ieee.Format.word nanB
  rw [sw64]
  simp only [decide_eq_false_iff_not]
  split <;> omega

theorem nanB_write (d : Ieee.Datum) (h : d.isNaN = false) : nanB (Ieee.double.write d) = false := by
  cases d with
  | number neg mag place =>
    unfold Ieee.Format.write Ieee.Format.nearest
    dsimp only
    split
    · exact nanB_word _ _ (by omega)
    · exact nanB_word _ _ (by rw [in64]; exact Nat.min_le_right _ _)
  | infinity neg => exact nanB_word _ _ (by rw [in64]; omega)
  | nan neg f => simp [Ieee.Datum.isNaN] at h

theorem sum_is {x y d : Ieee.Datum} (h : x.sum y = some d) : d.isNaN = false := by
  cases x <;> cases y <;> simp [Ieee.Datum.sum] at h
  all_goals (first | (subst h; rfl) | (obtain ⟨_, rfl⟩ := h; rfl))
theorem product_is {x y d : Ieee.Datum} (h : x.product y = some d) : d.isNaN = false := by
  cases x <;> cases y <;> simp [Ieee.Datum.product] at h
  all_goals (first | (subst h; rfl) | (obtain ⟨_, rfl⟩ := h; rfl))
theorem quotient_is {n : Nat} {x y d : Ieee.Datum} (h : Ieee.Datum.quotient n x y = some d) : d.isNaN = false := by
  cases x <;> cases y <;> simp only [Ieee.Datum.quotient, reduceCtorEq, Option.some.injEq] at h
  all_goals (first | (subst h; rfl) | skip)
  repeat' split at h
  all_goals (first | (cases h; done) | (cases h; rfl))

theorem map_is {o : Option Ieee.Datum} {r : Nat} (hd : ∀ d, o = some d → d.isNaN = false) (h : o.map Ieee.double.write = some r) : nanB r = false := by
  cases o with
  | none => cases h
  | some d => cases h; exact nanB_write d (hd d rfl)
theorem add_is {x y r : Nat} (h : Ieee.double.add x y = some r) : nanB r = false := map_is (fun _ h => sum_is h) h
theorem sub_is {x y r : Nat} (h : Ieee.double.sub x y = some r) : nanB r = false := map_is (fun _ h => sum_is h) h
theorem mul_is {x y r : Nat} (h : Ieee.double.mul x y = some r) : nanB r = false := map_is (fun _ h => product_is h) h
theorem div_is {x y r : Nat} (h : Ieee.double.div x y = some r) : nanB r = false := map_is (fun _ h => quotient_is h) h
theorem fofint_eq (n : Int) : fofint n = Ieee.double.write (.number (decide (n < 0)) n.natAbs 0) := rfl
theorem fofint_is (n : Int) : nanB (fofint n) = false := by rw [fofint_eq]; exact nanB_write _ rfl
theorem fofint_lt (n : Int) : fofint n < 18446744073709551616 := by rw [fofint_eq]; exact Ieee.Format.write_lt Ieee.double _

/-! ### The machine's arithmetic -/
def farith (op : BinOp) (x y : Nat) : Nat :=
  match op with
  | .add => fadd x y
  | .sub => fsub x y
  | .mul => fmul x y
  | _ => fdiv x y

theorem nan_cut (t : Nat) : nanB ((t % 2) * 2 ^ 63 + 0x7ff0000000000000 + 1 + (t / 2) % (2 ^ 52 - 1)) = true ∧ (t % 2) * 2 ^ 63 + 0x7ff0000000000000 + 1 + (t / 2) % (2 ^ 52 - 1) < 18446744073709551616 := by
  have h1 : (t / 2) % (2 ^ 52 - 1) < 4503599627370495 := Nat.mod_lt (t / 2) (show 0 < 2 ^ 52 - 1 by omega)
  have h2 := Nat.mod_lt t (show 0 < 2 by omega)
  generalize (t / 2) % (2 ^ 52 - 1) = u at *
  generalize t % 2 = v at *
  unfold nanB
  simp only [decide_eq_true_eq]
  omega

theorem run_farith {P : Program} (op : BinOp) (hop : op = .add ∨ op = .sub ∨ op = .mul ∨ op = .quo) (a b : Nat) (w : World) :
    ∃ r w', (Op.floatArith op .f64 a b).run P w = .ok (.float .f64 r) w' ∧ (w' = w ∨ w' = w.drew) ∧ r < 18446744073709551616 ∧ canon r = farith op (canon a) (canon b) := by
  have key : ∀ (o o' : Option Nat), o = o' → (∀ r, o' = some r → nanB r = false) → (∀ r, o' = some r → r < 18446744073709551616) →
      ∃ r w', ((match o' with | some r => (pure (.float .f64 r) : Sem Value) | none => do pure (.float .f64 (← choose (.nanBits .f64 a b)))).run P w) = .ok (.float .f64 r) w' ∧ (w' = w ∨ w' = w.drew) ∧ r < 18446744073709551616 ∧ canon r = o.getD qnan := by
    intro o o' e hn hl
    subst e
    cases o with
    | some r => exact ⟨r, w, rfl, .inl rfl, hl r rfl, canon_of_not (hn r rfl)⟩
    | none =>
      obtain ⟨h1, h2⟩ := nan_cut (w.tape w.drawn (.nanBits .f64 a b))
      exact ⟨_, w.drew, rfl, .inr rfl, h2, canon_of h1⟩
  rcases hop with rfl | rfl | rfl | rfl
  · exact key _ _ (add_canon a b) (fun r h => add_is h) (fun r h => Ieee.Format.add_lt _ h)
  · exact key _ _ (sub_canon a b) (fun r h => sub_is h) (fun r h => Ieee.Format.sub_lt _ h)
  · exact key _ _ (mul_canon a b) (fun r h => mul_is h) (fun r h => Ieee.Format.mul_lt _ h)
  · exact key _ _ (div_canon a b) (fun r h => div_is h) (fun r h => Ieee.Format.div_lt _ h)

end Go.Eng

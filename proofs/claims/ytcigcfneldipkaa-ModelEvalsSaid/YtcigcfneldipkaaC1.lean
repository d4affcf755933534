/- Part 1 of what the proof leans on: Engine, part 1; Engine, part 2; Engine, part 3; Engine, part 4; Engine, part 5; Engine, part 6; Engine, part 7; Engine, part 8; Engine, part 9; Engine, part 10; Engine, part 11; Engine, part 12; Engine, part 13; Engine, part 14; Engine, part 15; Engine, part 16; Engine, part 17; Engine, part 18; Engine, part 19; Engine, part 20; Engine, part 21; Engine, part 22; Engine, part 23. Conditions: as each theorem says. -/
import Derived.WalkKit
import Derived.WalkLawsBesides
import Derived.Below
import Derived.Orders
import Derived.LoopN
set_option linter.unusedVariables false
/- Engine, part 1: abstract values and what it means that a concrete value stands for one. No condition: definitions and small laws. -/
namespace Go.Eng
open Go

/-! ### Floats: one NaN -/
def qnan : Nat := 9221120237041090561
def nanB (b : Nat) : Bool := decide (9218868437227405312 < b % 9223372036854775808)
def canon (b : Nat) : Nat := bif nanB b then qnan else b

/-! ### Abstract values -/
inductive AV where
  | undef
  | bool (b : Bool)
  | int (k : IntKind) (n : Int)
  | flt (x : Nat)
  | str (s : ByteArray)
  | nilp
  | ptr (i off : Nat)
  | nils
  | slc (i off len : Nat)
  | snap (cells : List AV) (len : Nat)
  | sptr (cells : List AV) (off : Nat)
  | nilfn
  | nilif
  | fn (f : FuncId) (first cap : List AV)
  | agg (cs : List AV)
  | tup (vs : List AV)

/-- Where an own block lies. -/
structure Loc where
  blk : Nat
  cap : Nat

abbrev Phi := Nat → Option Loc
abbrev Im := Nat → Option (Array Value)

mutual
/-- The concrete value stands for the abstract one. What a slice that came in holds never leads into one's own memory. -/
inductive V (im : Im) : Phi → AV → Value → Prop where
  | undef (φ : Phi) : V im φ .undef (.tuple #[])
  | bool (φ : Phi) (b : Bool) : V im φ (.bool b) (.bool b)
  | int (φ : Phi) (k : IntKind) (n : Int) : V im φ (.int k n) (.int k n)
  | flt (φ : Phi) (b : Nat) (h : b < 18446744073709551616) : V im φ (.flt (canon b)) (.float .f64 b)
  | str (φ : Phi) (s : ByteArray) : V im φ (.str s) (.string s)
  | nilp (φ : Phi) : V im φ .nilp (.pointer none)
  | ptr (φ : Phi) (i off : Nat) (l : Loc) (h : φ i = some l) : V im φ (.ptr i off) (.pointer (some ⟨l.blk, off, none⟩))
  | nils (φ : Phi) : V im φ .nils (.slice none 0 0)
  | slc (φ : Phi) (i off len cap : Nat) (l : Loc) (h : φ i = some l) (hle : len ≤ cap) (hc : off = 0 → cap ≤ l.cap) : V im φ (.slc i off len) (.slice (some ⟨l.blk, off, none⟩) len cap)
  | slc0 (φ : Phi) (i off : Nat) : V im φ (.slc i off 0) (.slice none 0 0)
  | snap (φ : Phi) (cells : List AV) (len b o cap : Nat) (cs : Array Value) (vs : List Value) (him : im b = some cs) (hvs : vs = (cs.toList.drop o).take cells.length) (h : VL im (fun _ => none) cells vs) (hle : len ≤ cap) :
      V im φ (.snap cells len) (.slice (some ⟨b, o, none⟩) len cap)
  | snape (φ : Phi) (cells : List AV) (x : Option Addr) (cap : Nat) : V im φ (.snap cells 0) (.slice x 0 cap)
  | sptr (φ : Phi) (cells : List AV) (off b o : Nat) (cs : Array Value) (vs : List Value) (him : im b = some cs) (hvs : vs = (cs.toList.drop o).take cells.length) (h : VL im (fun _ => none) cells vs) :
      V im φ (.sptr cells off) (.pointer (some ⟨b, o + off, none⟩))
  | nilfn (φ : Phi) : V im φ .nilfn .nilFunc
  | nilif (φ : Phi) : V im φ .nilif .nilIface
  | fn (φ : Phi) (f : FuncId) (a c : List AV) (a' c' : Array Value) (ha : VL im φ a a'.toList) (hc : VL im φ c c'.toList) : V im φ (.fn f a c) (.func (.func f) a' c')
  | agg (φ : Phi) (cs : List AV) (cs' : Array Value) (h : VL im φ cs cs'.toList) : V im φ (.agg cs) (.agg cs')
  | tup (φ : Phi) (cs : List AV) (cs' : Array Value) (h : VL im φ cs cs'.toList) : V im φ (.tup cs) (.tuple cs')
inductive VL (im : Im) : Phi → List AV → List Value → Prop where
  | nil (φ : Phi) : VL im φ [] []
  | cons (φ : Phi) (x : AV) (v : Value) (xs : List AV) (vs : List Value) (h : V im φ x v) (hs : VL im φ xs vs) : VL im φ (x :: xs) (v :: vs)
end

/-- One place more is known. -/
def Phi.le (φ φ' : Phi) : Prop := ∀ i l, φ i = some l → φ' i = some l
def Im.le (im im' : Im) : Prop := ∀ b c, im b = some c → im' b = some c

mutual
theorem V.mono {φ φ' : Phi} {im im' : Im} (hp : φ.le φ') (hi : im.le im') : ∀ {x : AV} {v : Value}, V im φ x v → V im' φ' x v
  | _, _, .undef _ => .undef _
  | _, _, .bool _ b => .bool _ b
  | _, _, .int _ k n => .int _ k n
  | _, _, .flt _ b h => .flt _ b h
  | _, _, .str _ s => .str _ s
  | _, _, .nilp _ => .nilp _
  | _, _, .ptr _ i off l h => .ptr _ i off l (hp _ _ h)
  | _, _, .nils _ => .nils _
  | _, _, .slc _ i off len cap l h a b => .slc _ i off len cap l (hp _ _ h) a b
  | _, _, .slc0 _ i off => .slc0 _ i off
  | _, _, .snap _ cells len b o cap cs vs him hvs h hle => .snap _ cells len b o cap cs vs (hi _ _ him) hvs (VL.mono (fun _ _ e => e) hi h) hle
  | _, _, .snape _ cs x c => .snape _ cs x c
  | _, _, .sptr _ cells off b o cs vs him hvs h => .sptr _ cells off b o cs vs (hi _ _ him) hvs (VL.mono (fun _ _ e => e) hi h)
  | _, _, .nilfn _ => .nilfn _
  | _, _, .nilif _ => .nilif _
  | _, _, .fn _ f a c a' c' ha hc => .fn _ f a c a' c' (VL.mono hp hi ha) (VL.mono hp hi hc)
  | _, _, .agg _ cs cs' h => .agg _ cs cs' (VL.mono hp hi h)
  | _, _, .tup _ cs cs' h => .tup _ cs cs' (VL.mono hp hi h)
theorem VL.mono {φ φ' : Phi} {im im' : Im} (hp : φ.le φ') (hi : im.le im') : ∀ {x : List AV} {v : List Value}, VL im φ x v → VL im' φ' x v
  | _, _, .nil _ => .nil _
  | _, _, .cons _ x v xs vs h hs => .cons _ x v xs vs (V.mono hp hi h) (VL.mono hp hi hs)
end

theorem VL.length {φ : Phi} {im : Im} : ∀ {xs : List AV} {vs : List Value}, VL im φ xs vs → xs.length = vs.length
  | _, _, .nil _ => rfl
  | _, _, .cons _ _ _ _ _ _ hs => by simp [VL.length hs]

theorem VL.get {φ : Phi} {im : Im} : ∀ {xs : List AV} {vs : List Value}, VL im φ xs vs → ∀ (j : Nat) (x : AV), xs[j]? = some x → ∃ v, vs[j]? = some v ∧ V im φ x v
  | _, _, .nil _, j, x, h => by simp at h
  | _, _, .cons _ y v xs vs h hs, 0, x, hx => by
    simp at hx; subst hx; exact ⟨v, by simp, h⟩
  | _, _, .cons _ y v xs vs h hs, j + 1, x, hx => by
    simp at hx
    obtain ⟨u, hu, hv⟩ := hs.get j x hx
    exact ⟨u, by simpa using hu, hv⟩

theorem VL.mk {φ : Phi} {im : Im} : ∀ (xs : List AV) (vs : List Value), xs.length = vs.length → (∀ (j : Nat) (x : AV) (v : Value), xs[j]? = some x → vs[j]? = some v → V im φ x v) → VL im φ xs vs
  | [], [], _, _ => .nil _
  | [], _ :: _, h, _ => by simp at h
  | _ :: _, [], h, _ => by simp at h
  | x :: xs, v :: vs, h, k => .cons _ x v xs vs (k 0 x v (by simp) (by simp)) (VL.mk xs vs (by simpa using h) fun j a b ha hb => k (j + 1) a b (by simpa using ha) (by simpa using hb))

theorem VL.drop {φ : Phi} {im : Im} : ∀ {xs : List AV} {vs : List Value} (n : Nat), VL im φ xs vs → VL im φ (xs.drop n) (vs.drop n)
  | _, _, 0, h => by simpa using h
  | _, _, n + 1, .nil _ => by simpa using VL.nil _
  | _, _, n + 1, .cons _ x v xs vs h hs => by simpa using hs.drop n

theorem VL.take {φ : Phi} {im : Im} : ∀ {xs : List AV} {vs : List Value} (n : Nat), VL im φ xs vs → VL im φ (xs.take n) (vs.take n)
  | _, _, 0, h => by simpa using VL.nil _
  | _, _, n + 1, .nil _ => by simpa using VL.nil _
  | _, _, n + 1, .cons _ x v xs vs h hs => by simpa using VL.cons _ _ _ _ _ h (hs.take n)

theorem VL.append {φ : Phi} {im : Im} : ∀ {xs ys : List AV} {vs ws : List Value}, VL im φ xs vs → VL im φ ys ws → VL im φ (xs ++ ys) (vs ++ ws)
  | _, _, _, _, .nil _, h => by simpa using h
  | _, _, _, _, .cons _ x v xs vs h hs, k => by simpa using VL.cons _ _ _ _ _ h (hs.append k)

theorem VL.set {φ : Phi} {im : Im} : ∀ {xs : List AV} {vs : List Value} (n : Nat) (x : AV) (v : Value), VL im φ xs vs → V im φ x v → VL im φ (xs.set n x) (vs.set n v)
  | _, _, _, _, _, .nil _, _ => by simpa using VL.nil _
  | _, _, 0, _, _, .cons _ y w xs vs h hs, k => by simpa using VL.cons _ _ _ _ _ k hs
  | _, _, n + 1, _, _, .cons _ y w xs vs h hs, k => by simpa using VL.cons _ _ _ _ _ h (hs.set n _ _ k)

theorem VL.replicate {φ : Phi} {im : Im} (x : AV) (v : Value) (h : V im φ x v) : ∀ n, VL im φ (List.replicate n x) (List.replicate n v)
  | 0 => by simpa using VL.nil _
  | n + 1 => by simpa [List.replicate_succ] using VL.cons _ _ _ _ _ h (VL.replicate x v h n)

end Go.Eng
/- Engine, part 2: constants, the heap's standing, float words. No condition. -/
namespace Go.Eng
open Go Go.RowKit

/-! ### Constants -/
def ofConst0 : Value → Option AV
  | .bool b => some (.bool b)
  | .int k n => some (.int k n)
  | .float .f64 b => bif Nat.blt b 18446744073709551616 then some (.flt (canon b)) else none
  | .string s => some (.str s)
  | .pointer none => some .nilp
  | .slice none 0 0 => some .nils
  | .nilFunc => some .nilfn
  | .nilIface => some .nilif
  | .func (.func f) ⟨[]⟩ ⟨[]⟩ => some (.fn f [] [])
  | .tuple ⟨[]⟩ => some .undef
  | _ => none

def ofConsts : List Value → Option (List AV)
  | [] => some []
  | v :: vs => match ofConst0 v, ofConsts vs with
    | some x, some xs => some (x :: xs)
    | _, _ => none

def ofConst : Value → Option AV
  | .agg cs => (ofConsts cs.toList).map .agg
  | v => ofConst0 v

theorem ofConst0_V {φ : Phi} {im : Im} {v : Value} {x : AV} (h : ofConst0 v = some x) : V im φ x v := by
  unfold ofConst0 at h
  split at h
  · cases h; exact .bool _ _
  · cases h; exact .int _ _ _
  · rename_i b
    cases hb : Nat.blt b 18446744073709551616 with
    | true => rw [hb] at h; cases h; rw [Nat.blt_eq] at hb; exact .flt _ _ hb
    | false => rw [hb] at h; cases h
  · cases h; exact .str _ _
  · cases h; exact .nilp _
  · cases h; exact .nils _
  · cases h; exact .nilfn _
  · cases h; exact .nilif _
  · cases h; exact .fn _ _ _ _ _ _ (.nil _) (.nil _)
  · cases h; exact .undef _
  · cases h

theorem ofConsts_VL {φ : Phi} {im : Im} : ∀ {vs : List Value} {xs : List AV}, ofConsts vs = some xs → VL im φ xs vs
  | [], xs, h => by simp [ofConsts] at h; subst h; exact .nil _
  | v :: vs, xs, h => by
    unfold ofConsts at h
    split at h
    · rename_i x ys h1 h2
      cases h
      exact .cons _ _ _ _ _ (ofConst0_V h1) (ofConsts_VL h2)
    · cases h

theorem ofConst_V {φ : Phi} {im : Im} {v : Value} {x : AV} (h : ofConst v = some x) : V im φ x v := by
  unfold ofConst at h
  split at h
  · rename_i cs
    cases hc : ofConsts cs.toList with
    | none => rw [hc] at h; cases h
    | some xs => rw [hc] at h; cases h; exact .agg _ _ _ (ofConsts_VL hc)
  · exact ofConst0_V h

/-! ### A value's cells -/
def AV.cells : AV → List AV
  | .agg cs => cs
  | x => [x]

theorem V.cells {φ : Phi} {im : Im} {x : AV} {v : Value} (h : V im φ x v) : VL im φ x.cells v.cells.toList := by
  have h0 := h
  cases h
  case agg cs cs' h => exact h
  all_goals exact VL.cons _ _ _ _ _ h0 (.nil _)

end Go.Eng
/- Engine, part 3: arithmetic on canonical floats, and what the machine does with any bits. No condition but that the bits fit 64. -/
namespace Go.Eng
open Go Go.RowKit

def fadd (x y : Nat) : Nat := (Ieee.double.add x y).getD qnan
def fsub (x y : Nat) : Nat := (Ieee.double.sub x y).getD qnan
def fmul (x y : Nat) : Nat := (Ieee.double.mul x y).getD qnan
def fdiv (x y : Nat) : Nat := (Ieee.double.div x y).getD qnan
def fneg (x : Nat) : Nat := bif nanB x then qnan else x ^^^ 9223372036854775808
def feq (x y : Nat) : Bool := Ieee.double.order x y == some .eq
def fne (x y : Nat) : Bool := Ieee.double.order x y != some .eq
def flt (x y : Nat) : Bool := Ieee.double.order x y == some .lt
def fle (x y : Nat) : Bool := Ieee.double.order x y == some .lt || Ieee.double.order x y == some .eq
def fgt (x y : Nat) : Bool := Ieee.double.order x y == some .gt
def fge (x y : Nat) : Bool := Ieee.double.order x y == some .gt || Ieee.double.order x y == some .eq
def fofint (n : Int) : Nat := FloatKind.f64.nearest n

theorem sw64 : Ieee.double.signWeight = 9223372036854775808 := by decide +kernel
theorem bi64 : Ieee.double.binade = 4503599627370496 := by decide +kernel
theorem in64 : Ieee.double.infRung = 9218868437227405312 := by decide +kernel

theorem isNaN_read (b : Nat) : (Ieee.double.read b).isNaN = nanB b := by
  unfold Ieee.Format.read nanB
  simp only [sw64, bi64, in64]
  have h := Nat.mod_lt b (show 0 < 9223372036854775808 by omega)
  split
  · rw [Bool.eq_iff_iff]; simp [Ieee.Datum.isNaN]; omega
  · split
    · rw [Bool.eq_iff_iff]; simp [Ieee.Datum.isNaN]; omega
    · split
      · rw [Bool.eq_iff_iff]; simp [Ieee.Datum.isNaN]; omega
      · rw [Bool.eq_iff_iff]; simp [Ieee.Datum.isNaN]; omega

theorem nanB_qnan : nanB qnan = true := by decide +kernel
theorem nanB_canon (b : Nat) : nanB (canon b) = nanB b := by
  unfold canon
  cases h : nanB b with
  | true => simp [nanB_qnan]
  | false => simp [h]
theorem canon_of_not {b : Nat} (h : nanB b = false) : canon b = b := by simp [canon, h]
theorem canon_of {b : Nat} (h : nanB b = true) : canon b = qnan := by simp [canon, h]
theorem canon_canon (b : Nat) : canon (canon b) = canon b := by
  cases h : nanB b with
  | true => rw [canon_of h]; exact canon_of nanB_qnan
  | false => rw [canon_of_not h, canon_of_not h]

theorem isNaN_canon (b : Nat) : (Ieee.double.read (canon b)).isNaN = (Ieee.double.read b).isNaN := by rw [isNaN_read, isNaN_read, nanB_canon]

/-- What looks at its operands by 'read' alone, and answers 'none' at a NaN, does not see which NaN it is. -/
theorem two_canon {α : Type} (f : Ieee.Datum → Ieee.Datum → Option α) (h1 : ∀ x y, x.isNaN = true → f x y = none) (h2 : ∀ x y, y.isNaN = true → f x y = none) (a b : Nat) :
    f (Ieee.double.read (canon a)) (Ieee.double.read (canon b)) = f (Ieee.double.read a) (Ieee.double.read b) := by
  cases ha : nanB a with
  | true => rw [h1 _ _ (by rw [isNaN_canon, isNaN_read]; exact ha), h1 _ _ (by rw [isNaN_read]; exact ha)]
  | false =>
    rw [canon_of_not ha]
    cases hb : nanB b with
    | true => rw [h2 _ _ (by rw [isNaN_canon, isNaN_read]; exact hb), h2 _ _ (by rw [isNaN_read]; exact hb)]
    | false => rw [canon_of_not hb]

theorem sum_nan1 (x y : Ieee.Datum) (h : x.isNaN = true) : x.sum y = none := by cases x <;> simp_all [Ieee.Datum.isNaN, Ieee.Datum.sum]
theorem sum_nan2 (x y : Ieee.Datum) (h : y.isNaN = true) : x.sum y = none := by cases y <;> cases x <;> simp_all [Ieee.Datum.isNaN, Ieee.Datum.sum]
theorem opp_nan (x : Ieee.Datum) : x.opposite.isNaN = x.isNaN := by cases x <;> simp [Ieee.Datum.isNaN, Ieee.Datum.opposite]
theorem product_nan1 (x y : Ieee.Datum) (h : x.isNaN = true) : x.product y = none := by cases x <;> simp_all [Ieee.Datum.isNaN, Ieee.Datum.product]
theorem product_nan2 (x y : Ieee.Datum) (h : y.isNaN = true) : x.product y = none := by cases y <;> cases x <;> simp_all [Ieee.Datum.isNaN, Ieee.Datum.product]
theorem quotient_nan1 (n : Nat) (x y : Ieee.Datum) (h : x.isNaN = true) : Ieee.Datum.quotient n x y = none := by cases x <;> simp_all [Ieee.Datum.isNaN, Ieee.Datum.quotient]
theorem quotient_nan2 (n : Nat) (x y : Ieee.Datum) (h : y.isNaN = true) : Ieee.Datum.quotient n x y = none := by cases y <;> cases x <;> simp_all [Ieee.Datum.isNaN, Ieee.Datum.quotient]
theorem order_nan1 (x y : Ieee.Datum) (h : x.isNaN = true) : x.order y = none := by cases x <;> simp_all [Ieee.Datum.isNaN, Ieee.Datum.order]
theorem order_nan2 (x y : Ieee.Datum) (h : y.isNaN = true) : x.order y = none := by cases y <;> cases x <;> simp_all [Ieee.Datum.isNaN, Ieee.Datum.order]

theorem add_canon (a b : Nat) : Ieee.double.add (canon a) (canon b) = Ieee.double.add a b :=
  two_canon (fun x y => (x.sum y).map Ieee.double.write) (fun x y h => by simp [sum_nan1 x y h]) (fun x y h => by simp [sum_nan2 x y h]) a b
theorem sub_canon (a b : Nat) : Ieee.double.sub (canon a) (canon b) = Ieee.double.sub a b :=
  two_canon (fun x y => (x.sum y.opposite).map Ieee.double.write) (fun x y h => by simp [sum_nan1 _ _ h]) (fun x y h => by rw [sum_nan2 _ _ (by rw [opp_nan]; exact h)]; rfl) a b
theorem mul_canon (a b : Nat) : Ieee.double.mul (canon a) (canon b) = Ieee.double.mul a b :=
  two_canon (fun x y => (x.product y).map Ieee.double.write) (fun x y h => by simp [product_nan1 x y h]) (fun x y h => by simp [product_nan2 x y h]) a b
theorem div_canon (a b : Nat) : Ieee.double.div (canon a) (canon b) = Ieee.double.div a b :=
  two_canon (fun x y => (x.quotient (Ieee.double.fractionBits + 2) y).map Ieee.double.write) (fun x y h => by simp [quotient_nan1 _ x y h]) (fun x y h => by simp [quotient_nan2 _ x y h]) a b
theorem order_canon (a b : Nat) : Ieee.double.order (canon a) (canon b) = Ieee.double.order a b :=
  two_canon (fun x y => x.order y) (fun x y h => order_nan1 x y h) (fun x y h => order_nan2 x y h) a b

theorem nanB_word (neg : Bool) (r : Nat) (h : r ≤ 9218868437227405312) : nanB (Ieee.double.word neg r) = false := by
  unfold Ieee.Format.word nanB
  rw [sw64]
  simp only [decide_eq_false_iff_not]
  split <;> omega

theorem nanB_write (d : Ieee.Datum) (h : d.isNaN = false) : nanB (Ieee.double.write d) = false := by
  cases d with
  | number neg mag place =>
    unfold Ieee.Format.write Ieee.Format.nearest
    dsimp only
    split
    · exact nanB_word _ _ (by omega)
    · exact nanB_word _ _ (by rw [in64]; exact Nat.min_le_right _ _)
  | infinity neg => exact nanB_word _ _ (by rw [in64]; omega)
  | nan neg f => simp [Ieee.Datum.isNaN] at h

theorem sum_is {x y d : Ieee.Datum} (h : x.sum y = some d) : d.isNaN = false := by
  cases x <;> cases y <;> simp [Ieee.Datum.sum] at h
  all_goals (first | (subst h; rfl) | (obtain ⟨_, rfl⟩ := h; rfl))
theorem product_is {x y d : Ieee.Datum} (h : x.product y = some d) : d.isNaN = false := by
  cases x <;> cases y <;> simp [Ieee.Datum.product] at h
  all_goals (first | (subst h; rfl) | (obtain ⟨_, rfl⟩ := h; rfl))
theorem quotient_is {n : Nat} {x y d : Ieee.Datum} (h : Ieee.Datum.quotient n x y = some d) : d.isNaN = false := by
  cases x <;> cases y <;> simp only [Ieee.Datum.quotient, reduceCtorEq, Option.some.injEq] at h
  all_goals (first | (subst h; rfl) | skip)
  repeat' split at h
  all_goals (first | (cases h; done) | (cases h; rfl))

theorem map_is {o : Option Ieee.Datum} {r : Nat} (hd : ∀ d, o = some d → d.isNaN = false) (h : o.map Ieee.double.write = some r) : nanB r = false := by
  cases o with
  | none => cases h
  | some d => cases h; exact nanB_write d (hd d rfl)
theorem add_is {x y r : Nat} (h : Ieee.double.add x y = some r) : nanB r = false := map_is (fun _ h => sum_is h) h
theorem sub_is {x y r : Nat} (h : Ieee.double.sub x y = some r) : nanB r = false := map_is (fun _ h => sum_is h) h
theorem mul_is {x y r : Nat} (h : Ieee.double.mul x y = some r) : nanB r = false := map_is (fun _ h => product_is h) h
theorem div_is {x y r : Nat} (h : Ieee.double.div x y = some r) : nanB r = false := map_is (fun _ h => quotient_is h) h
theorem fofint_eq (n : Int) : fofint n = Ieee.double.write (.number (decide (n < 0)) n.natAbs 0) := rfl
theorem fofint_is (n : Int) : nanB (fofint n) = false := by rw [fofint_eq]; exact nanB_write _ rfl
theorem fofint_lt (n : Int) : fofint n < 18446744073709551616 := by rw [fofint_eq]; exact Ieee.Format.write_lt Ieee.double _

/-! ### The machine's arithmetic -/
def farith (op : BinOp) (x y : Nat) : Nat :=
  match op with
  | .add => fadd x y
  | .sub => fsub x y
  | .mul => fmul x y
  | _ => fdiv x y

theorem nan_cut (t : Nat) : nanB ((t % 2) * 2 ^ 63 + 0x7ff0000000000000 + 1 + (t / 2) % (2 ^ 52 - 1)) = true ∧ (t % 2) * 2 ^ 63 + 0x7ff0000000000000 + 1 + (t / 2) % (2 ^ 52 - 1) < 18446744073709551616 := by
  have h1 : (t / 2) % (2 ^ 52 - 1) < 4503599627370495 := Nat.mod_lt (t / 2) (show 0 < 2 ^ 52 - 1 by omega)
  have h2 := Nat.mod_lt t (show 0 < 2 by omega)
  generalize (t / 2) % (2 ^ 52 - 1) = u at *
  generalize t % 2 = v at *
  unfold nanB
  simp only [decide_eq_true_eq]
  omega

theorem run_farith {P : Program} (op : BinOp) (hop : op = .add ∨ op = .sub ∨ op = .mul ∨ op = .quo) (a b : Nat) (w : World) :
    ∃ r w', (Op.floatArith op .f64 a b).run P w = .ok (.float .f64 r) w' ∧ (w' = w ∨ w' = w.drew) ∧ r < 18446744073709551616 ∧ canon r = farith op (canon a) (canon b) := by
  have key : ∀ (o o' : Option Nat), o = o' → (∀ r, o' = some r → nanB r = false) → (∀ r, o' = some r → r < 18446744073709551616) →
      ∃ r w', ((match o' with | some r => (pure (.float .f64 r) : Sem Value) | none => do pure (.float .f64 (← choose (.nanBits .f64 a b)))).run P w) = .ok (.float .f64 r) w' ∧ (w' = w ∨ w' = w.drew) ∧ r < 18446744073709551616 ∧ canon r = o.getD qnan := by
    intro o o' e hn hl
    subst e
    cases o with
    | some r => exact ⟨r, w, rfl, .inl rfl, hl r rfl, canon_of_not (hn r rfl)⟩
    | none =>
      obtain ⟨h1, h2⟩ := nan_cut (w.tape w.drawn (.nanBits .f64 a b))
      exact ⟨_, w.drew, rfl, .inr rfl, h2, canon_of h1⟩
  rcases hop with rfl | rfl | rfl | rfl
  · exact key _ _ (add_canon a b) (fun r h => add_is h) (fun r h => Ieee.Format.add_lt _ h)
  · exact key _ _ (sub_canon a b) (fun r h => sub_is h) (fun r h => Ieee.Format.sub_lt _ h)
  · exact key _ _ (mul_canon a b) (fun r h => mul_is h) (fun r h => Ieee.Format.mul_lt _ h)
  · exact key _ _ (div_canon a b) (fun r h => div_is h) (fun r h => Ieee.Format.div_lt _ h)

end Go.Eng
/- Engine, part 4: the abstract heap, how it stands to memory, and what each kind of step does to that. No condition. -/
namespace Go.Eng
open Go Go.RowKit

structure ABlk where
  cells : List AV
  ety : TypeId

abbrev AHeap := Nat → Option ABlk
abbrev AEnv := Nat → Option AV

def upd {α : Type} (f : Nat → Option α) (n : Nat) (v : Option α) : Nat → Option α := fun k => bif Nat.beq k n then v else f k

theorem upd_same {α : Type} (f : Nat → Option α) (n : Nat) (v : Option α) : upd f n v n = v := by simp [upd]
theorem upd_other {α : Type} (f : Nat → Option α) (n : Nat) (v : Option α) {k : Nat} (h : k ≠ n) : upd f n v k = f k := by
  have : Nat.beq k n = false := by
    cases e : Nat.beq k n with
    | false => rfl
    | true => exact absurd (Nat.eq_of_beq_eq_true e) h
  simp [upd, this]

def esz (P : Program) (t : TypeId) : Nat := match P.info? t with | some i => i.size | none => 0

structure HRep (P : Program) (base : Nat) (φ : Phi) (im : Im) (h : AHeap) (w : World) : Prop where
  imh : ∀ b cs, im b = some cs → ∃ e f, w.heap[b]? = some (.cells cs e f)
  own : ∀ i k, h i = some k → (φ i = none ∧ k.cells = []) ∨ ∃ l cs, φ i = some l ∧ w.heap[l.blk]? = some (.cells cs k.ety (0, 0)) ∧ base ≤ l.blk ∧ im l.blk = none ∧ l.cap ≤ maxLen ∧ l.cap * esz P k.ety ≤ cs.size ∧
    VL im φ k.cells (cs.toList.take k.cells.length)
  apart : ∀ i j k k' l l', h i = some k → h j = some k' → φ i = some l → φ j = some l' → l.blk = l'.blk → i = j

section
variable {P : Program} {base : Nat} {φ φ' : Phi} {im im' : Im} {h : AHeap} {w w' : World}

theorem HRep.heap_eq (H : HRep P base φ im h w) (e : w'.heap = w.heap) : HRep P base φ im h w' :=
  ⟨by rw [e]; exact H.imh, by rw [e]; exact H.own, H.apart⟩

theorem HRep.drop (H : HRep P base φ im h w) (n : Nat) : HRep P base φ im (upd h n none) w := by
  have hk : ∀ i k, upd h n none i = some k → h i = some k := fun i k e => by
    by_cases hi : i = n
    · subst hi; rw [upd_same] at e; cases e
    · rwa [upd_other _ _ _ hi] at e
  exact ⟨H.imh, fun i k e => H.own i k (hk i k e), fun i j k k' l l' a b => H.apart i j k k' l l' (hk _ _ a) (hk _ _ b)⟩

theorem Phi.le_upd {n : Nat} (hn : φ n = none) (l : Loc) : Phi.le φ (upd φ n (some l)) := fun i l' hi => by
  rw [upd_other]
  · exact hi
  · intro e; subst e; rw [hn] at hi; cases hi

theorem Phi.none_le (φ : Phi) : Phi.le (fun _ => none) φ := fun _ _ h => by cases h
theorem Im.le_refl (im : Im) : Im.le im im := fun _ _ h => h
theorem Phi.le_refl (φ : Phi) : Phi.le φ φ := fun _ _ h => h
theorem Phi.le_trans {a b c : Phi} (h : Phi.le a b) (k : Phi.le b c) : Phi.le a c := fun i l e => k i l (h i l e)
theorem Im.le_trans {a b c : Im} (h : Im.le a b) (k : Im.le b c) : Im.le a c := fun i l e => k i l (h i l e)

/-- A place is filled: a new block in memory, or one that no other place has. -/
theorem HRep.put (H : HRep P base φ im h w) {n : Nat} (hn : φ n = none) {l : Loc} {cs : Array Value} {k : ABlk}
    (hw : ∀ b, b ≠ l.blk → b < w.heap.size → w'.heap[b]? = w.heap[b]?)
    (hl : w'.heap[l.blk]? = some (.cells cs k.ety (0, 0))) (hb : base ≤ l.blk) (hi : im l.blk = none) (hcap : l.cap ≤ maxLen) (hsz : l.cap * esz P k.ety ≤ cs.size)
    (hap : ∀ i k l', h i = some k → φ i = some l' → l'.blk ≠ l.blk)
    (hv : VL im φ k.cells (cs.toList.take k.cells.length)) : HRep P base (upd φ n (some l)) im (upd h n (some k)) w' := by
  have hle := Phi.le_upd hn l
  have hlt : ∀ b o, w.heap[b]? = some o → b < w.heap.size := fun b o e => (Array.getElem?_eq_some_iff.1 e).1
  refine ⟨fun b c e => ?_, fun i k' e => ?_, fun i j k1 k2 l1 l2 e1 e2 e3 e4 e5 => ?_⟩
  · obtain ⟨x, f, hx⟩ := H.imh b c e
    refine ⟨x, f, ?_⟩
    rw [hw b (fun e' => by subst e'; rw [hi] at e; cases e) (hlt _ _ hx)]
    exact hx
  · by_cases hin : i = n
    · subst hin
      rw [upd_same] at e
      cases e
      exact .inr ⟨l, cs, upd_same _ _ _, hl, hb, hi, hcap, hsz, hv.mono hle (Im.le_refl _)⟩
    · rw [upd_other _ _ _ hin] at e
      rcases H.own i k' e with ⟨a1, a2⟩ | ⟨l', cs', a1, a2, a3, a4, a5, a6, a7⟩
      · exact .inl ⟨by rw [upd_other _ _ _ hin]; exact a1, a2⟩
      · refine .inr ⟨l', cs', hle _ _ a1, ?_, a3, a4, a5, a6, a7.mono hle (Im.le_refl _)⟩
        rw [hw _ (hap i k' l' e a1) (hlt _ _ a2)]
        exact a2
  · by_cases h1 : i = n
    · by_cases h2 : j = n
      · rw [h1, h2]
      · rw [upd_other _ _ _ h2] at e2 e4
        subst h1
        rw [upd_same] at e3
        cases e3
        exact absurd e5.symm (hap j k2 l2 e2 e4)
    · rw [upd_other _ _ _ h1] at e1 e3
      by_cases h2 : j = n
      · subst h2
        rw [upd_same] at e4
        cases e4
        exact absurd e5 (hap i k1 l1 e1 e3)
      · rw [upd_other _ _ _ h2] at e2 e4
        exact H.apart i j k1 k2 l1 l2 e1 e2 e3 e4 e5

theorem HRep.lt_im (H : HRep P base φ im h w) {b : Nat} {cs : Array Value} (e : im b = some cs) : b < w.heap.size := by
  obtain ⟨x, f, hx⟩ := H.imh b cs e
  exact (Array.getElem?_eq_some_iff.1 hx).1

theorem HRep.new_im (H : HRep P base φ im h w) : im w.heap.size = none := by
  cases e : im w.heap.size with
  | none => rfl
  | some cs => exact absurd (H.lt_im e) (by omega)

/-- A new block. -/
theorem HRep.alloc (H : HRep P base φ im h w) {n : Nat} (hn : φ n = none) (cap : Nat) (cs : Array Value) (k : ABlk) (hbase : base ≤ w.heap.size)
    (hcap : cap ≤ maxLen) (hsz : cap * esz P k.ety ≤ cs.size) (hv : VL im φ k.cells (cs.toList.take k.cells.length)) :
    HRep P base (upd φ n (some ⟨w.heap.size, cap⟩)) im (upd h n (some k)) (w.alloc (.cells cs k.ety)) := by
  refine H.put hn (l := ⟨w.heap.size, cap⟩) (cs := cs) (fun b _ hb => Below.heap_alloc w _ b hb) (heap_alloc_new w _) hbase H.new_im hcap hsz (fun i k' l' hi hl e => ?_) hv
  rcases H.own i k' hi with ⟨a1, _⟩ | ⟨l2, cs', a1, a2, _⟩
  · rw [hl] at a1; cases a1
  rw [hl] at a1
  cases a1
  have := (Array.getElem?_eq_some_iff.1 a2).1
  simp at e
  omega

/-- What may be nil: nothing is there. -/
theorem HRep.nothing (H : HRep P base φ im h w) {n : Nat} (hn : φ n = none) (e : TypeId) : HRep P base φ im (upd h n (some ⟨[], e⟩)) w := by
  refine ⟨H.imh, fun i k e => ?_, fun i j k1 k2 l1 l2 e1 e2 e3 e4 e5 => ?_⟩
  · by_cases hi : i = n
    · subst hi; rw [upd_same] at e; cases e; exact .inl ⟨hn, rfl⟩
    · rw [upd_other _ _ _ hi] at e; exact H.own i k e
  · by_cases h1 : i = n
    · subst h1; rw [hn] at e3; cases e3
    · by_cases h2 : j = n
      · subst h2; rw [hn] at e4; cases e4
      · rw [upd_other _ _ _ h1] at e1
        rw [upd_other _ _ _ h2] at e2
        exact H.apart i j k1 k2 l1 l2 e1 e2 e3 e4 e5

/-- A block of one's own is written. -/
theorem HRep.store (H : HRep P base φ im h w) {i : Nat} {k k' : ABlk} (hi : h i = some k) {l : Loc} (hl : φ i = some l) {cs cs' : Array Value} (hc : w.heap[l.blk]? = some (.cells cs k.ety (0, 0)))
    (hw : ∀ b, b ≠ l.blk → w'.heap[b]? = w.heap[b]?) (hl' : w'.heap[l.blk]? = some (.cells cs' k'.ety (0, 0))) (hety : k'.ety = k.ety) (hsz : cs'.size = cs.size)
    (hv : VL im φ k'.cells (cs'.toList.take k'.cells.length)) : HRep P base φ im (upd h i (some k')) w' := by
  rcases H.own i k hi with ⟨a1, _⟩ | ⟨l0, cs0, a1, a2, a3, a4, a5, a6, a7⟩
  · rw [hl] at a1; cases a1
  rw [hl] at a1
  cases a1
  rw [hc] at a2
  cases a2
  have hk : ∀ j k2, upd h i (some k') j = some k2 → ∃ k3, h j = some k3 := fun j k2 e => by
    by_cases hj : j = i
    · subst hj; exact ⟨k, hi⟩
    · rw [upd_other _ _ _ hj] at e; exact ⟨k2, e⟩
  refine ⟨fun b c e => ?_, fun j k2 e => ?_, fun j1 j2 k1 k2 l1 l2 e1 e2 e3 e4 e5 => ?_⟩
  · obtain ⟨x, f, hx⟩ := H.imh b c e
    refine ⟨x, f, ?_⟩
    rw [hw b (fun e' => by subst e'; rw [a4] at e; cases e)]
    exact hx
  · by_cases hj : j = i
    · subst hj
      rw [upd_same] at e
      cases e
      exact .inr ⟨l, cs', hl, hl', a3, a4, a5, by rw [hety, hsz]; exact a6, hv⟩
    · rw [upd_other _ _ _ hj] at e
      rcases H.own j k2 e with b | ⟨l', cs2, b1, b2, b3, b4, b5, b6, b7⟩
      · exact .inl b
      · refine .inr ⟨l', cs2, b1, ?_, b3, b4, b5, b6, b7⟩
        rw [hw _ (fun e' => hj (H.apart j i k2 k l' l e hi b1 hl e'))]
        exact b2
  · obtain ⟨k3, e1'⟩ := hk _ _ e1
    obtain ⟨k4, e2'⟩ := hk _ _ e2
    exact H.apart j1 j2 k3 k4 l1 l2 e1' e2' e3 e4 e5
end

end Go.Eng
/- Engine, part 5: the evaluator of one operation on abstract values. Definitions alone. -/
namespace Go.Eng
open Go

def BinOp.isCmp : BinOp → Bool
  | .eql | .neq | .lss | .leq | .gtr | .geq => true
  | _ => false

/-- What an operation does: the value, the blocks that it sets, the blocks that it looks at, what must hold. -/
structure Eff where
  val : AV
  wr : List (Nat × Option ABlk)
  rd : List Nat
  ok : Bool

def pur (x : AV) : Option Eff := some ⟨x, [], [], true⟩
def purIf (x : AV) (c : Bool) : Option Eff := some ⟨x, [], [], c⟩

/-! ### Cells read by their type -/
def AV.toFlt : AV → Nat | .flt x => x | _ => 0
def AV.toInt : AV → Int | .int _ n => n | _ => 0
def AV.toBool : AV → Bool | .bool b => b | _ => false
def AV.isFlt : AV → Bool | .flt _ => true | _ => false
def AV.isInt (k : IntKind) : AV → Bool | .int k' _ => decide (k' = k) | _ => false
def AV.isBool : AV → Bool | .bool _ => true | _ => false
def AV.sCells : AV → List AV | .snap c _ => c | _ => []
def AV.sLen : AV → Nat | .snap _ n => n | _ => 0
def AV.isSn : AV → Bool | .snap _ _ => true | .nils => true | _ => false

inductive Leaf where
  | f | i (k : IntKind) | b | sl | other

/-- s: what is read came in, so that a slice there never leads into one's own memory. -/
def leafOf (s : Bool) : TypeDesc → Leaf
  | .float .f64 => .f
  | .int k => .i k
  | .bool => .b
  | .slice _ => bif s then .sl else .other
  | _ => .other

def AV.eta : Leaf → AV → AV
  | .f, x => .flt x.toFlt
  | .i k, x => .int k x.toInt
  | .b, x => .bool x.toBool
  | .sl, x => .snap x.sCells x.sLen
  | .other, x => x
def AV.etaOk : Leaf → AV → Bool
  | .f, x => x.isFlt
  | .i k, x => x.isInt k
  | .b, x => x.isBool
  | .sl, x => x.isSn
  | .other, _ => true

/-- The kinds of a type's cells, in order (looked at to a depth; 'none': too deep, or no such type). -/
def leaves (P : Program) (s : Bool) : Nat → TypeId → List Leaf
  | 0, _ => []
  | d + 1, t => match P.underlying t with
    | some (.struct fs) => fs.toList.flatMap fun f => leaves P s d f.type
    | some (.array n e) => (List.replicate n (leaves P s d e)).flatten
    | some u => [leafOf s u]
    | none => []

def aggB (P : Program) (t : TypeId) : Bool :=
  match P.underlying t with
  | some (.struct _) | some (.array _ _) => true
  | _ => false

def etas : List Leaf → List AV → Nat → List AV
  | [], _, _ => []
  | l :: ls, cells, off => (cells.getD off .undef).eta l :: etas ls cells (off + 1)
def etasOk : List Leaf → List AV → Nat → Bool
  | [], _, _ => true
  | l :: ls, cells, off => (cells.getD off .undef).etaOk l && etasOk ls cells (off + 1)

/-- A variable of type t among cells, from a place on. -/
def loadV (P : Program) (s : Bool) (t : TypeId) (cells : List AV) (off : Nat) : Option (AV × Bool) :=
  bif aggB P t then
    let ls := leaves P s 6 t
    bif Nat.beq ls.length (esz P t) && Nat.blt 0 (esz P t) then some (.agg (etas ls cells off), Nat.ble (off + esz P t) cells.length && etasOk ls cells off) else none
  else match P.underlying t with
    | some u => some ((cells.getD off .undef).eta (leafOf s u), Nat.blt off cells.length && (cells.getD off .undef).etaOk (leafOf s u))
    | none => none

def setL {α : Type} (cells : List α) (off : Nat) : List α → List α
  | [] => cells
  | x :: xs => setL (cells.set off x) (off + 1) xs

/-! ### Plain operations -/
def intV (op : BinOp) (k : IntKind) (a b : Int) : Option Eff :=
  match op with
  | .add => pur (.int k (k.wrap (a + b)))
  | .sub => pur (.int k (k.wrap (a - b)))
  | .mul => pur (.int k (k.wrap (a * b)))
  | .quo => purIf (.int k (k.wrap (a.tdiv b))) (b != 0)
  | .rem => purIf (.int k (a.tmod b)) (b != 0)
  | .and => pur (.int k (k.wrap (BitVec.ofInt k.bits a &&& BitVec.ofInt k.bits b).toNat))
  | .or => pur (.int k (k.wrap (BitVec.ofInt k.bits a ||| BitVec.ofInt k.bits b).toNat))
  | .xor => pur (.int k (k.wrap (BitVec.ofInt k.bits a ^^^ BitVec.ofInt k.bits b).toNat))
  | .andNot => pur (.int k (k.wrap (BitVec.ofInt k.bits a &&& ~~~BitVec.ofInt k.bits b).toNat))
  | .eql => pur (.bool (a == b))
  | .neq => pur (.bool (a != b))
  | .lss => pur (.bool (decide (a < b)))
  | .leq => pur (.bool (decide (a ≤ b)))
  | .gtr => pur (.bool (decide (a > b)))
  | .geq => pur (.bool (decide (a ≥ b)))
  | _ => none

def shiftV (op : BinOp) (k : IntKind) (a b : Int) : Option Eff :=
  match op with
  | .shl => purIf (.int k (k.wrap (a * 2 ^ (min b.toNat k.bits)))) (decide (0 ≤ b))
  | .shr => purIf (.int k (a.fdiv (2 ^ (min b.toNat k.bits)))) (decide (0 ≤ b))
  | _ => none

def isShift : BinOp → Bool
  | .shl | .shr => true
  | _ => false

def fltV (op : BinOp) (x y : Nat) : Option Eff :=
  match op with
  | .add => pur (.flt (fadd x y))
  | .sub => pur (.flt (fsub x y))
  | .mul => pur (.flt (fmul x y))
  | .quo => pur (.flt (fdiv x y))
  | .eql => pur (.bool (feq x y))
  | .neq => pur (.bool (fne x y))
  | .lss => pur (.bool (flt x y))
  | .leq => pur (.bool (fle x y))
  | .gtr => pur (.bool (fgt x y))
  | .geq => pur (.bool (fge x y))
  | _ => none

def strV (op : BinOp) (x y : ByteArray) : Option Eff :=
  match op with
  | .eql => pur (.bool (x.toList == y.toList))
  | .neq => pur (.bool (!(x.toList == y.toList)))
  | .add => purIf (.str (x ++ y)) (decide (x.size + y.size ≤ 9223372036854775807))
  | _ => none

def boolB (P : Program) (t : TypeId) : Bool := match P.underlying t with | some .bool => true | _ => false

/-- Two truths in a row. -/
def bool2B (P : Program) (t : TypeId) : Bool := match P.underlying t with
  | some (.array n e) => Nat.beq n 2 && (boolB P e && (Nat.beq (esz P e) 1 && !P.eqGuardType P.depth t))
  | _ => false

def binV (P : Program) (op : BinOp) (t : TypeId) (x y : AV) : Option Eff :=
  match x, y with
  | .int k a, .int k' b => bif isShift op then shiftV op k a b else bif decide (k = k') then intV op k a b else none
  | .flt a, .flt b => fltV op a b
  | .str a, .str b => strV op a b
  | .bool a, .bool b => bif boolB P t then (match op with | .eql => pur (.bool (a == b)) | .neq => pur (.bool (!(a == b))) | _ => none) else none
  | .agg [.bool a, .bool b], .agg [.bool c, .bool d] => bif bool2B P t then (match op with | .eql => pur (.bool (a == c && b == d)) | .neq => pur (.bool (!(a == c && b == d))) | _ => none) else none
  | _, _ => none

def unV (op : UnOp) (x : AV) : Option Eff :=
  match op, x with
  | .not, .bool b => pur (.bool (!b))
  | .neg, .int k n => pur (.int k (k.wrap (0 - n)))
  | .neg, .flt x => pur (.flt (fneg x))
  | _, _ => none

/-- A float cut to a whole number, if the kind has it. -/
def fcut (x : Nat) : Int := ((Ieee.double.read x).toInt .zero).getD 0
def fcutOk (k : IntKind) (x : Nat) : Bool :=
  match (Ieee.double.read x).toInt .zero with
  | some n => decide (k.min ≤ n ∧ n ≤ k.max)
  | none => false

def convV (P : Program) (src dst : TypeId) (x : AV) : Option Eff :=
  match P.underlying src, P.underlying dst, x with
  | some (.int _), some (.int k), .int _ n => pur (.int k (k.wrap n))
  | some (.int _), some (.float .f64), .int _ n => pur (.flt (fofint n))
  | some (.float .f64), some (.int k), .flt a => purIf (.int k (fcut a)) (fcutOk k a)
  | some (.float .f64), some (.float .f64), .flt a => pur (.flt a)
  | some .string, some .string, .str s => pur (.str s)
  | _, _, _ => none

/-! ### Places and parts -/
def fieldsOf (P : Program) (t : TypeId) (f : Nat) : Option Field :=
  match P.underlying t with
  | some (.struct fs) => fs[f]?
  | _ => none

def fieldAddrV (P : Program) (s : TypeId) (x : AV) (f : Nat) : Option Eff :=
  match fieldsOf P s f with
  | some fd => bif Nat.beq (esz P fd.type) 0 then none else
    match x with
    | .ptr i off => pur (.ptr i (off + fd.offset))
    | .sptr cells off => pur (.sptr cells (off + fd.offset))
    | _ => none
  | none => none

def fieldV (P : Program) (t : TypeId) (x : AV) (f : Nat) : Option Eff :=
  match fieldsOf P t f, x with
  | some fd, .agg cs => match loadV P false fd.type cs fd.offset with
    | some (v, c) => purIf v c
    | none => none
  | _, _ => none

def indexAddrV (P : Program) (t : TypeId) (x ix : AV) : Option Eff :=
  match ix with
  | .int _ n =>
    match P.underlying t with
    | some (.array len e) =>
      bif Nat.beq (esz P e) 0 then none else match x with
      | .ptr i off => purIf (.ptr i (off + n.toNat * esz P e)) (decide (0 ≤ n ∧ n < len))
      | .sptr cells off => purIf (.sptr cells (off + n.toNat * esz P e)) (decide (0 ≤ n ∧ n < len))
      | _ => none
    | some (.slice e) =>
      bif Nat.beq (esz P e) 0 then none else match x with
      | .slc i off len => purIf (.ptr i (off + n.toNat * esz P e)) (decide (0 ≤ n ∧ n < len))
      | .snap cells len => purIf (.sptr cells (n.toNat * esz P e)) (decide (0 ≤ n ∧ n < len))
      | _ => none
    | _ => none
  | _ => none

def indexV (P : Program) (t : TypeId) (x ix : AV) : Option Eff :=
  match ix with
  | .int _ n =>
    match P.underlying t, x with
    | some (.array len e), .agg cs => bif Nat.beq (esz P e) 0 then none else match loadV P false e cs (n.toNat * esz P e) with
      | some (v, c) => purIf v (c && decide (0 ≤ n ∧ n < len))
      | none => none
    | some .string, .str s => purIf (.int .u8 ((s[n.toNat]?.map fun b => (b.toNat : Int)).getD 0)) (decide (0 ≤ n ∧ n < s.size))
    | _, _ => none
  | _ => none

def optInt : Option AV → Option (Option Int)
  | none => some none
  | some (.int _ n) => some (some n)
  | _ => none

/-- x[lo:hi], x[lo:hi:mx] -/
def sliceV (P : Program) (t : TypeId) (x : AV) (lo hi mx : Option AV) : Option Eff :=
  match optInt lo, optInt hi, optInt mx with
  | some lo, some hi, some mx =>
    match P.underlying t, x with
    | some (.slice e), .slc i off len =>
      let h := hi.getD len; let l := lo.getD 0
      bif Nat.beq (esz P e) 0 then none else purIf (.slc i (off + l.toNat * esz P e) (h - l).toNat) (decide (0 ≤ l ∧ l ≤ h ∧ h ≤ len) && (match lo with | none => true | some l => decide (l < h)) && (match mx with | none => true | some m => decide (h ≤ m ∧ m ≤ len ∧ hi.isSome = true)))
    | some (.slice e), .snap cells len =>
      let h := hi.getD len; let l := lo.getD 0
      bif Nat.beq (esz P e) 0 then none else purIf (.snap (cells.drop (l.toNat * esz P e)) (h - l).toNat) (decide (0 ≤ l ∧ l ≤ h ∧ h ≤ len) && (match lo with | none => true | some l => decide (l < h)) && (match mx with | none => true | some m => decide (h ≤ m ∧ m ≤ len ∧ hi.isSome = true)))
    | some .string, .str s =>
      let h := hi.getD s.size; let l := lo.getD 0
      match mx with
      | none => purIf (.str (s.extract l.toNat h.toNat)) (decide (0 ≤ l ∧ l ≤ h ∧ h ≤ s.size))
      | some _ => none
    | _, _ => none
  | _, _, _ => none

/-! ### Memory of one's own -/
def zeroV (P : Program) (t : TypeId) : Option AV := match P.info? t with | some i => i.zero.bind ofConst | none => none

def placesOf (P : Program) (fs : List Field) : Option (List (Nat × Nat)) := fs.mapM (fun f => (P.info? f.type).map fun i => (f.offset, i.size))

def fillV (place : Nat → Option (Nat × Nat)) (cells : List AV) : List (Nat × AV) → Option (List AV)
  | [] => some cells
  | (i, v) :: rest => match place i with
    | none => none
    | some (off, size) => bif Nat.beq v.cells.length size && Nat.ble (off + size) cells.length then fillV place (setL cells off v.cells) rest else none

def buildV (P : Program) (t : TypeId) (parts : List (Nat × AV)) : Option Eff :=
  match zeroV P t with
  | none => none
  | some z => match P.underlying t with
    | some (.struct fs) => match placesOf P fs.toList with
      | some pl => match fillV (fun i => pl.toArray[i]?) z.cells parts with
        | some cs => pur (.agg cs)
        | none => none
      | none => none
    | some (.array _ e) => match P.info? e with
      | some ie => match fillV (fun i => some (i * ie.size, ie.size)) z.cells parts with
        | some cs => pur (.agg cs)
        | none => none
      | none => none
    | _ => none

def sliceElem (P : Program) (t : TypeId) : Option TypeId := match P.underlying t with | some (.slice e) => some e | _ => none

/-- n times the cells of z, cut: the cells of a new row. -/
def repV : List AV → Nat → List AV
  | [x], n => List.replicate n x
  | z, n => (List.replicate n z).flatten

def AV.one : AV → Bool | .agg _ | .tup _ | .undef => false | _ => true

def allocV (P : Program) (t : TypeId) (n : Nat) : Option Eff :=
  match zeroV P t with
  | some z => bif Nat.beq z.cells.length (esz P t) then some ⟨.ptr n 0, [(n, some ⟨z.cells, t⟩)], [], true⟩ else none
  | none => none

def boxV (P : Program) (t : TypeId) (v : AV) (n : Nat) : Option Eff :=
  bif Nat.beq v.cells.length (esz P t) then some ⟨.ptr n 0, [(n, some ⟨v.cells, t⟩)], [], true⟩ else none

def buildSliceV (P : Program) (t : TypeId) (len : Nat) (parts : List (Nat × AV)) (n : Nat) : Option Eff :=
  match sliceElem P t with
  | none => none
  | some e => match zeroV P e with
    | none => none
    | some z => bif Nat.beq z.cells.length (esz P e) && Nat.ble (len * esz P e) 16777216 && Nat.blt 0 (esz P e) then
        match fillV (fun i => some (i * esz P e, esz P e)) (repV z.cells len) parts with
        | some cs => some ⟨.slc n 0 len, [(n, some ⟨cs, e⟩)], [], true⟩
        | none => none
      else none

def makeV (P : Program) (t : TypeId) (l c : AV) (n : Nat) : Option Eff :=
  match l, c, sliceElem P t with
  | .int _ l, .int _ c, some e => match zeroV P e, P.info? e with
    | some z, some i => bif Nat.beq z.cells.length i.size && Nat.blt 0 i.size then
        some ⟨.slc n 0 l.toNat, [(n, some ⟨repV z.cells l.toNat, e⟩)], [], decide (0 ≤ l ∧ l ≤ c ∧ (i.bytes : Int) * c ≤ 281474976710656 ∧ c ≤ 9223372036854775807)⟩ else none
    | _, _ => none
  | _, _, _ => none

/-- What a slice holds: its cells, how many elements, what was looked at. -/
def srcV (size : Nat) (h : AHeap) : AV → Option (List AV × Nat × List Nat × Bool)
  | .nils => some ([], 0, [], true)
  | .snap cells m => some (cells.take (m * size), m, [], Nat.ble (m * size) cells.length)
  | .slc k o m => match h k with
    | some b => some ((b.cells.drop o).take (m * size), m, [k], Nat.ble (o + m * size) b.cells.length)
    | none => none
  | _ => none

def appendV (P : Program) (t : TypeId) (s x : AV) (h : AHeap) (n : Nat) : Option Eff :=
  match sliceElem P t with
  | none => none
  | some e => match P.info? e, zeroV P e with
    | some i, some z => bif Nat.beq z.cells.length i.size && Nat.blt 0 i.size then
        match srcV i.size h x with
        | none => none
        | some (news, m, rd, c) =>
          match s with
          | .nils => some ⟨.slc n 0 m, [(n, some ⟨news, e⟩)], rd, c && decide (m * i.bytes ≤ 140737488355328 ∧ m ≤ maxLen)⟩
          | .slc k o len => match h k with
            | some b => bif Nat.beq o 0 && decide (b.ety = e) then
                some ⟨.slc n 0 (len + m), [(k, none), (n, some ⟨b.cells ++ news, e⟩)], k :: rd,
                  c && news.all AV.one && decide (b.cells.length = len * i.size ∧ (len + m) * i.bytes ≤ 140737488355328 ∧ len + m ≤ maxLen)⟩ else none
            | none => none
          | _ => none
      else none
    | _, _ => none

def loadOp (P : Program) (t : TypeId) (a : AV) (h : AHeap) : Option Eff :=
  match a with
  | .ptr i off => match h i with
    | some b => match loadV P false t b.cells off with
      | some (v, c) => some ⟨v, [], [i], c⟩
      | none => none
    | none => none
  | .sptr cells off => match loadV P true t cells off with
    | some (v, c) => purIf v c
    | none => none
  | _ => none

def storeOp (P : Program) (t : TypeId) (a v : AV) (h : AHeap) : Option Eff :=
  match a with
  | .ptr i off => match h i with
    | some b => bif Nat.beq v.cells.length (esz P t) && Nat.blt 0 (esz P t) then
        some ⟨.undef, [(i, some ⟨setL b.cells off v.cells, b.ety⟩)], [i], Nat.ble (off + v.cells.length) b.cells.length && v.cells.all AV.one⟩ else none
    | none => none
  | _ => none

end Go.Eng
/- Engine, part 6: the plain operations, their soundness. Condition: what the evaluator says must hold, holds. -/
namespace Go.Eng
open Go Go.RowKit

/-- A run that yields a value that stands for x, and leaves memory as it is. -/
def Plain (P : Program) (φ : Phi) (im : Im) (w : World) (s : Sem Value) (x : AV) : Prop :=
  ∃ r w', s.run P w = .ok r w' ∧ (w' = w ∨ w' = w.drew) ∧ V im φ x r

section
variable {P : Program} {φ : Phi} {im : Im} {w : World}

theorem Plain.pure {v : Value} {x : AV} (h : V im φ x v) : Plain P φ im w (Pure.pure v) x := ⟨v, w, rfl, .inl rfl, h⟩

theorem Plain.of {s : Sem Value} {v : Value} {x : AV} (e : s.run P w = .ok v w) (h : V im φ x v) : Plain P φ im w s x := ⟨v, w, e, .inl rfl, h⟩

theorem pur_ok {x : AV} {e : Eff} (h : pur x = some e) : e = ⟨x, [], [], true⟩ := by cases h; rfl
theorem purIf_ok {x : AV} {c : Bool} {e : Eff} (h : purIf x c = some e) : e = ⟨x, [], [], c⟩ := by cases h; rfl

theorem int_of {x : AV} {k : IntKind} {n : Int} {v : Value} (e : x = .int k n) (h : V im φ x v) : v = .int k n := by subst e; cases h; rfl

theorem intV_sound {op : BinOp} {k : IntKind} {a b : Int} {e : Eff} (hs : isShift op = false) (h : intV op k a b = some e) (hok : e.ok = true) (t : TypeId) :
    Plain P φ im w (binOp op t (.int k a) (.int k b)) e.val ∧ e.wr = [] := by
  cases op <;> simp only [intV, isShift, reduceCtorEq] at h hs <;> first | (cases h; done) | skip
  all_goals cases h
  all_goals refine ⟨Plain.of (v := ?_) ?_ ?_, rfl⟩
  all_goals first
    | exact V.int _ _ _
    | exact V.bool _ _
    | skip
  all_goals first
    | (simp [binOp, Op.intArith, Op.intBits, Op.intCmp]; done)
    | (have hb : b ≠ 0 := by simpa using hok
       simp [binOp, Op.intDiv, hb])

theorem shiftV_sound {op : BinOp} {k k' : IntKind} {a b : Int} {e : Eff} (h : shiftV op k a b = some e) (hok : e.ok = true) (t : TypeId) :
    Plain P φ im w (binOp op t (.int k a) (.int k' b)) e.val ∧ e.wr = [] := by
  cases op <;> simp only [shiftV, reduceCtorEq] at h <;> first | (cases h; done) | skip
  all_goals cases h
  all_goals have hb : ¬ b < 0 := by have : 0 ≤ b := by simpa using hok
                                    omega
  all_goals exact ⟨Plain.of (by simp [binOp, Op.shift, hb]) (V.int _ _ _), rfl⟩

theorem fltV_sound {op : BinOp} {a b : Nat} {e : Eff} (h : fltV op (canon a) (canon b) = some e) (t : TypeId) :
    Plain P φ im w (binOp op t (.float .f64 a) (.float .f64 b)) e.val ∧ e.wr = [] := by
  have ar : ∀ op', (op' = .add ∨ op' = .sub ∨ op' = .mul ∨ op' = .quo) → Plain P φ im w (Op.floatArith op' .f64 a b) (.flt (farith op' (canon a) (canon b))) := by
    intro op' ho
    obtain ⟨r, w', h1, h2, h3, h4⟩ := run_farith (P := P) op' ho a b w
    exact ⟨_, w', h1, h2, h4 ▸ V.flt _ r h3⟩
  cases op <;> simp only [fltV, reduceCtorEq] at h <;> first | (cases h; done) | skip
  all_goals cases h
  case add => exact ⟨ar .add (by simp), rfl⟩
  case sub => exact ⟨ar .sub (by simp), rfl⟩
  case mul => exact ⟨ar .mul (by simp), rfl⟩
  case quo => exact ⟨ar .quo (by simp), rfl⟩
  all_goals exact ⟨Plain.of (by simp only [binOp, Op.floatCmp, ne_eq, not_true_eq_false, if_false]; rfl) (by simp only [feq, fne, flt, fle, fgt, fge, order_canon]; exact V.bool _ _), rfl⟩

theorem strV_sound {op : BinOp} {a b : ByteArray} {e : Eff} (h : strV op a b = some e) (hok : e.ok = true) (t : TypeId) :
    Plain P φ im w (binOp op t (.string a) (.string b)) e.val ∧ e.wr = [] := by
  cases op <;> simp only [strV, reduceCtorEq] at h <;> first | (cases h; done) | skip
  all_goals cases h
  case add =>
    have hl : a.size + b.size ≤ 9223372036854775807 := by simpa using hok
    have hn : ¬ (((a.size + b.size : Nat) : Int) > IntKind.i64.max) := by
      have : IntKind.i64.max = 9223372036854775807 := by decide
      rw [this]; omega
    exact ⟨Plain.of (by simp only [binOp, Op.stringOp]; rw [if_neg hn]; rfl) (V.str _ _), rfl⟩
  all_goals exact ⟨Plain.of (by simp only [binOp, Op.stringOp]; rfl) (V.bool _ _), rfl⟩

theorem equal_bool {t : TypeId} (ht : P.underlying t = some .bool) (a b : Bool) (w : World) : (Op.equal t (.bool a) (.bool b)).run P w = .ok (a == b) w := by
  show (Op.equalIn (9999 + 1) t _ _).run P w = _
  unfold Op.equalIn
  simp only [Sem.run_bind, run_underlying ht, Result.andThen_ok, Sem.run_pure]

theorem part_bool {e : TypeId} (he : P.underlying e = some .bool) (cs : Array Value) (i : Nat) (b : Bool) (hc : cs[i]? = some (.bool b)) : (part e cs i).run P w = .ok (.bool b) w := by
  unfold part
  simp [Sem.run_bind, isAgg, run_underlying he, hc]
theorem equal_bool2 {t e : TypeId} (ht : P.underlying t = some (.array 2 e)) (he : P.underlying e = some .bool) (hs : esz P e = 1) (a b c d : Bool) : (Op.equal t (.agg #[.bool a, .bool b]) (.agg #[.bool c, .bool d])).run P w = .ok (a == c && b == d) w := by
  have hsz : (sizeOf e).run P w = .ok 1 w := by
    unfold esz at hs
    split at hs
    · rename_i i hi
      simp [sizeOf, typeInfo, hi, hs]
    · simp at hs
  have heq : ∀ x y : Bool, (Op.equalIn 9999 e (.bool x) (.bool y)).run P w = .ok (x == y) w := by
    intro x y
    show (Op.equalIn (9998 + 1) e _ _).run P w = _
    unfold Op.equalIn
    simp only [Sem.run_bind, run_underlying he, Result.andThen_ok, Sem.run_pure]
  have p1 : ∀ x y : Bool, (part e #[.bool x, .bool y] (0 * 1)).run P w = .ok (.bool x) w := fun x y => part_bool he _ _ _ rfl
  have p2 : ∀ x y : Bool, (part e #[.bool x, .bool y] (1 * 1)).run P w = .ok (.bool y) w := fun x y => part_bool he _ _ _ rfl
  show (Op.equalIn (9999 + 1) t _ _).run P w = _
  unfold Op.equalIn
  simp only [Sem.run_bind, run_underlying ht, Result.andThen_ok, hsz, Std.Legacy.Range.forIn_eq_forIn_range', Std.Legacy.Range.size]
  simp [List.range', heq, p1, p2]
  cases a <;> cases b <;> cases c <;> cases d <;> simp

theorem binV_sound {op : BinOp} {t : TypeId} {x y : AV} {v u : Value} {e : Eff} (h : binV P op t x y = some e) (hok : e.ok = true) (hx : V im φ x v) (hy : V im φ y u) (ox oy : Operand) :
    Plain P φ im w (do eqGuard op t ox oy v u; binOp op t v u) e.val ∧ e.wr = [] := by
  cases hx <;> cases hy <;> simp only [binV, reduceCtorEq] at h <;> first | (cases h; done) | skip
  case int.int k a k' b =>
    have hg : ∀ s : Sem Value, (do eqGuard op t ox oy (.int k a) (.int k' b); s).run P w = s.run P w := by
      intro s; unfold eqGuard; cases op <;> simp
    unfold Plain
    rw [hg]
    cases hs : isShift op with
    | true =>
      rw [hs] at h
      exact shiftV_sound h hok t
    | false =>
      rw [hs] at h
      by_cases hk : k = k'
      · subst hk
        simp only [decide_true, cond_true, cond_false] at h
        exact intV_sound hs h hok t
      · simp [hk] at h
  case flt.flt a ha b hb =>
    have hg : ∀ s : Sem Value, (do eqGuard op t ox oy (.float .f64 a) (.float .f64 b); s).run P w = s.run P w := by
      intro s; unfold eqGuard; cases op <;> simp
    unfold Plain
    rw [hg]
    exact fltV_sound h t
  case str.str a b =>
    have hg : ∀ s : Sem Value, (do eqGuard op t ox oy (.string a) (.string b); s).run P w = s.run P w := by
      intro s; unfold eqGuard; cases op <;> simp
    unfold Plain
    rw [hg]
    exact strV_sound h hok t
  case bool.bool a b =>
    have hg : ∀ s : Sem Value, (do eqGuard op t ox oy (.bool a) (.bool b); s).run P w = s.run P w := by
      intro s; unfold eqGuard; cases op <;> simp
    unfold Plain
    rw [hg]
    unfold boolB at h
    split at h
    · rename_i ht
      cases op <;> simp only [cond_true, reduceCtorEq] at h <;> first | (cases h; done) | skip
      all_goals cases h
      all_goals exact ⟨Plain.of (by simp only [binOp, Sem.run_bind, equal_bool ht, Result.andThen_ok, Sem.run_pure]) (V.bool _ _), rfl⟩
    · cases h

  case agg.agg cs1 A1 h1 cs2 A2 h2 =>
    split at h <;> first | (cases h; done) | (rename_i e1 e2; cases e1; done) | skip
    rename_i a b c d e1 e2
    cases e1
    cases e2
    have f1 : A1 = #[.bool a, .bool b] := by
      generalize hl : A1.toList = l at h1
      cases h1 with
      | cons _ _ v1 _ vs1 g1 g2 =>
        cases g2 with
        | cons _ _ v2 _ vs2 g3 g4 =>
          cases g4; cases g1; cases g3
          rw [← Array.toList_inj]; simpa using hl
    have f2 : A2 = #[.bool c, .bool d] := by
      generalize hl : A2.toList = l at h2
      cases h2 with
      | cons _ _ v1 _ vs1 g1 g2 =>
        cases g2 with
        | cons _ _ v2 _ vs2 g3 g4 =>
          cases g4; cases g1; cases g3
          rw [← Array.toList_inj]; simpa using hl
    subst f1
    subst f2
    cases hb : bool2B P t with
    | false => rw [hb] at h; cases h
    | true =>
      rw [hb] at h
      unfold bool2B at hb
      split at hb
      · rename_i n e ht
        simp only [Bool.and_eq_true, Bool.not_eq_true'] at hb
        obtain ⟨q1, q2, q3, q4⟩ := hb
        have := Nat.eq_of_beq_eq_true q1
        subst this
        have hs := Nat.eq_of_beq_eq_true q3
        have he : P.underlying e = some .bool := by
          unfold boolB at q2
          split at q2
          · assumption
          · cases q2
        have hg : ∀ s : Sem Value, (do eqGuard op t ox oy (.agg #[.bool a, .bool b]) (.agg #[.bool c, .bool d]); s).run P w = s.run P w := by
          intro s; unfold eqGuard; cases op <;> simp [program, Sem.run, q4]
        unfold Plain
        rw [hg]
        cases op <;> simp only [cond_true, reduceCtorEq] at h <;> first | (cases h; done) | skip
        all_goals cases h
        all_goals exact ⟨Plain.of (by simp only [binOp, Sem.run_bind, equal_bool2 ht he hs, Result.andThen_ok, Sem.run_pure]) (V.bool _ _), rfl⟩
      · cases hb

theorem nanB_flip (b : Nat) (h : b < 18446744073709551616) : nanB (b ^^^ 9223372036854775808) = nanB b ∧ b ^^^ 9223372036854775808 < 18446744073709551616 := by
  have h1 : b ^^^ 9223372036854775808 < 2 ^ 64 := Nat.xor_lt_two_pow (by omega) (by omega)
  refine ⟨?_, by omega⟩
  have h2 : (b ^^^ 9223372036854775808) % 9223372036854775808 = b % 9223372036854775808 := by
    have := Nat.xor_mod_two_pow (a := b) (b := 9223372036854775808) (n := 63)
    simpa using this
  unfold nanB
  rw [h2]

theorem unV_sound {op : UnOp} {x : AV} {v : Value} {e : Eff} (h : unV op x = some e) (hx : V im φ x v) : Plain P φ im w (Op.unary op v) e.val ∧ e.wr = [] := by
  cases hx <;> cases op <;> simp only [unV, reduceCtorEq] at h <;> first | (cases h; done) | skip
  all_goals cases h
  case bool.not b => exact ⟨Plain.pure (V.bool _ _), rfl⟩
  case int.neg k n => exact ⟨Plain.of (v := .int k (k.wrap (0 - n))) (by simp [Op.unary, Op.intArith]) (V.int _ _ _), rfl⟩
  case flt.neg b hb =>
    obtain ⟨h1, h2⟩ := nanB_flip b hb
    refine ⟨Plain.of (v := .float .f64 (b ^^^ 9223372036854775808)) rfl ?_, rfl⟩
    have : fneg (canon b) = canon (b ^^^ 9223372036854775808) := by
      unfold fneg
      rw [nanB_canon]
      cases hn : nanB b with
      | true => rw [canon_of (h1.trans hn)]; rfl
      | false => rw [canon_of_not (h1.trans hn), canon_of_not hn]; rfl
    show V im φ (.flt (fneg (canon b))) _
    rw [this]
    exact V.flt _ _ h2

theorem toInt_canon (b : Nat) : (Ieee.double.read (canon b)).toInt .zero = (Ieee.double.read b).toInt .zero := by
  cases h : nanB b with
  | false => rw [canon_of_not h]
  | true =>
    have k : ∀ d : Ieee.Datum, d.isNaN = true → d.toInt .zero = none := by
      intro d hd; cases d <;> simp_all [Ieee.Datum.isNaN, Ieee.Datum.toInt, Ieee.Datum.integral]
    rw [k _ (by rw [isNaN_canon, isNaN_read]; exact h), k _ (by rw [isNaN_read]; exact h)]

theorem convV_sound {src dst : TypeId} {x : AV} {v : Value} {e : Eff} (h : convV P src dst x = some e) (hok : e.ok = true) (hx : V im φ x v) : Plain P φ im w (convert src dst v) e.val ∧ e.wr = [] := by
  unfold convV at h
  split at h
  · rename_i k1 k2 k n h1 h2
    cases h; cases hx
    exact ⟨Plain.of (v := .int k2 (k2.wrap n)) (by simp [convert, run_underlying h1, run_underlying h2, Conv.intToInt]) (V.int _ _ _), rfl⟩
  · rename_i k1 k n h1 h2
    cases h; cases hx
    refine ⟨Plain.of (v := .float .f64 (fofint n)) (by simp [convert, run_underlying h1, run_underlying h2, Conv.intToFloat, fofint]) ?_, rfl⟩
    have := V.flt (im := im) φ (fofint n) (fofint_lt n)
    rwa [canon_of_not (fofint_is n)] at this
  · rename_i k a h1 h2
    cases h
    cases hx with
    | flt _ b hb =>
      have hok' : fcutOk k (canon b) = true := hok
      unfold fcutOk at hok'
      rw [toInt_canon] at hok'
      cases hd : (Ieee.double.read b).toInt .zero with
      | none => rw [hd] at hok'; cases hok'
      | some n =>
        rw [hd] at hok'
        have hb2 : k.min ≤ n ∧ n ≤ k.max := by simpa using hok'
        have hd' : (FloatKind.f64.decode b).toInt .zero = some n := hd
        refine ⟨Plain.of (v := .int k n) (by simp [convert, run_underlying h1, run_underlying h2, Conv.floatToInt, hd', hb2]) ?_, rfl⟩
        have : fcut (canon b) = n := by unfold fcut; rw [toInt_canon, hd]; rfl
        rw [this]
        exact V.int _ _ _
  · rename_i a h1 h2
    cases h
    cases hx with
    | flt _ b hb => exact ⟨Plain.of (v := .float .f64 b) (by simp [convert, run_underlying h1, run_underlying h2, Conv.floatToFloat]) (V.flt _ b hb), rfl⟩
  · rename_i s h1 h2
    cases h
    cases hx
    exact ⟨Plain.of (v := .string s) (by simp [convert, run_underlying h1, run_underlying h2]) (V.str _ _), rfl⟩
  · cases h
end
end Go.Eng
/- Engine, part 7: reading: parts, places, loads, slices of slices; and what is built without memory. Condition: what the evaluator says must hold, holds. -/
namespace Go.Eng
open Go Go.RowKit

section
variable {P : Program} {φ : Phi} {im : Im} {w : World}

theorem run_isAgg {t : TypeId} {u : TypeDesc} (hu : P.underlying t = some u) (w : World) : (isAgg t).run P w = .ok (aggB P t) w := by
  unfold isAgg aggB
  rw [hu]
  cases u <;> simp [run_underlying hu]

theorem run_sizeOf {t : TypeId} (h : esz P t ≠ 0) (w : World) : (sizeOf t).run P w = .ok (esz P t) w := by
  unfold esz at *
  split at h
  · rename_i i hi
    simp [sizeOf, typeInfo, hi]
  · simp at h

theorem eta_V {l : Leaf} {x : AV} {v : Value} (h : x.etaOk l = true) (hx : V im φ x v) : V im φ (x.eta l) v := by
  cases l with
  | sl =>
    cases x <;> simp [AV.etaOk, AV.isSn] at h
    · cases hx; exact .snape _ _ _ _
    · exact hx
  | other => exact hx
  | f => cases x <;> simp_all [AV.eta, AV.etaOk, AV.isFlt, AV.toFlt]
  | i k => cases x <;> simp_all [AV.eta, AV.etaOk, AV.isInt, AV.toInt]
  | b => cases x <;> simp_all [AV.eta, AV.etaOk, AV.isBool, AV.toBool]

theorem etas_VL : ∀ (ls : List Leaf) (cells : List AV) (off : Nat) (vs : List Value), etasOk ls cells off = true → off + ls.length ≤ cells.length → VL im φ cells vs → VL im φ (etas ls cells off) ((vs.drop off).take ls.length)
  | [], _, _, _, _, _, _ => by simpa [etas] using VL.nil _
  | l :: ls, cells, off, vs, h, hl, hv => by
    simp only [etasOk, Bool.and_eq_true] at h
    simp only [List.length_cons] at hl
    have ih := etas_VL ls cells (off + 1) vs h.2 (by omega) hv
    have hlt : off < cells.length := by omega
    have hlv := hv.length
    have hg : cells.getD off .undef = cells[off] := by simp [List.getD, List.getElem?_eq_getElem hlt]
    obtain ⟨v, hv1, hv2⟩ := hv.get off (cells[off]'hlt) (List.getElem?_eq_getElem hlt)
    have hlt2 : off < vs.length := by omega
    have hvv : vs[off] = v := by rw [List.getElem?_eq_getElem hlt2] at hv1; exact Option.some.inj hv1
    rw [List.drop_eq_getElem_cons hlt2, List.length_cons, List.take_succ_cons, hvv]
    simp only [etas]
    refine .cons _ _ _ _ _ (eta_V h.1 (by rw [hg]; exact hv2)) ih

/-- What is read stands for what is read. -/
theorem loadV_sound {s : Bool} {t : TypeId} {cells : List AV} {off : Nat} {x : AV} {c : Bool} {vs : List Value} (h : loadV P s t cells off = some (x, c)) (hc : c = true) (hv : VL im φ cells vs) :
    ∃ u, P.underlying t = some u ∧ ((aggB P t = true ∧ esz P t ≠ 0 ∧ off + esz P t ≤ vs.length ∧ V im φ x (.agg ((vs.drop off).take (esz P t)).toArray)) ∨
      (aggB P t = false ∧ ∃ v, vs[off]? = some v ∧ V im φ x v)) := by
  subst hc
  unfold loadV at h
  have hlen := hv.length
  cases ha : aggB P t with
  | true =>
    rw [ha] at h
    have hu : ∃ u, P.underlying t = some u := by
      unfold aggB at ha
      cases hu : P.underlying t with
      | none => rw [hu] at ha; cases ha
      | some u => exact ⟨u, rfl⟩
    obtain ⟨u, hu⟩ := hu
    refine ⟨u, hu, .inl ⟨rfl, ?_⟩⟩
    simp only [cond_true] at h
    cases hl : (Nat.beq (leaves P s 6 t).length (esz P t) && Nat.blt 0 (esz P t)) with
    | false => rw [hl] at h; cases h
    | true =>
      rw [hl] at h
      simp only [cond_true, Option.some.injEq, Prod.mk.injEq] at h
      obtain ⟨h1, h2⟩ := h
      simp only [Bool.and_eq_true, Nat.blt_eq, Nat.ble_eq] at h2 hl
      have hl1 : (leaves P s 6 t).length = esz P t := Nat.eq_of_beq_eq_true hl.1
      refine ⟨by omega, by omega, ?_⟩
      have hE := etas_VL _ _ _ _ h2.2 (by omega) hv
      rw [← h1]
      rw [hl1] at hE
      exact .agg _ _ _ (by simpa using hE)
  | false =>
    rw [ha] at h
    simp only [cond_false] at h
    cases hu : P.underlying t with
    | none => rw [hu] at h; cases h
    | some u =>
      rw [hu] at h
      simp only [Option.some.injEq, Prod.mk.injEq] at h
      obtain ⟨h1, h2⟩ := h
      simp only [Bool.and_eq_true, Nat.blt_eq] at h2
      refine ⟨u, rfl, .inr ⟨rfl, ?_⟩⟩
      have hg : cells.getD off .undef = cells[off]'h2.1 := by simp [List.getD, List.getElem?_eq_getElem h2.1]
      obtain ⟨v, hv1, hv2⟩ := hv.get off (cells[off]'h2.1) (List.getElem?_eq_getElem h2.1)
      exact ⟨v, hv1, by rw [← h1]; exact eta_V h2.2 (by rw [hg]; exact hv2)⟩

/-- A variable at a place whose cells are known is loaded. -/
theorem loadVar_exact {s : Bool} {t : TypeId} {cells : List AV} {off : Nat} {x : AV} {c : Bool} {vs : List Value} (h : loadV P s t cells off = some (x, c)) (hc : c = true) (hv : VL im φ cells vs)
    (b o : Nat) (hm : ∀ j v, vs[j]? = some v → w.cell? ⟨b, o + j, none⟩ = some v) : ∃ r, (loadVar t ⟨b, o + off, none⟩).run P w = .ok r w ∧ V im φ x r := by
  obtain ⟨u, hu, h1⟩ := loadV_sound h hc hv
  rcases h1 with ⟨ha, hz, hl, hx⟩ | ⟨ha, v, hv1, hx⟩
  · refine ⟨.agg ((vs.drop off).take (esz P t)).toArray, ?_, hx⟩
    have hlen : ((vs.drop off).take (esz P t)).length = esz P t := by simp; omega
    have hr := run_loadCells_list (P := P) w ⟨b, o + off, none⟩ ((vs.drop off).take (esz P t)) (fun j v hj => by
      rw [Addr.add_lit]
      rw [List.getElem?_take] at hj
      split at hj
      · rw [List.getElem?_drop] at hj
        have := hm _ _ hj
        rwa [← Nat.add_assoc] at this
      · cases hj)
    rw [hlen] at hr
    unfold loadVar
    simp only [Sem.run_bind, run_isAgg hu, Result.andThen_ok, ha, if_true, run_sizeOf hz, hr, Sem.run_pure]
  · refine ⟨v, ?_, hx⟩
    unfold loadVar
    simp [Sem.run_bind, run_isAgg hu, Result.andThen_ok, ha, hm _ _ hv1]

theorem loadVar_sound {s : Bool} {t : TypeId} {cells : List AV} {off : Nat} {x : AV} {c : Bool} {vs : List Value} (h : loadV P s t cells off = some (x, c)) (hc : c = true) (hv : VL im φ cells vs)
    (b o : Nat) (hm : ∀ j v, vs[j]? = some v → w.cell? ⟨b, o + j, none⟩ = some v) : Plain P φ im w (loadVar t ⟨b, o + off, none⟩) x := by
  obtain ⟨r, h1, h2⟩ := loadVar_exact (P := P) (w := w) h hc hv b o hm
  exact Plain.of h1 h2

theorem part_sound {s : Bool} {t : TypeId} {cells : List AV} {off : Nat} {x : AV} {c : Bool} {cs : Array Value} (h : loadV P s t cells off = some (x, c)) (hc : c = true) (hv : VL im φ cells cs.toList) :
    Plain P φ im w (part t cs off) x := by
  obtain ⟨u, hu, h1⟩ := loadV_sound h hc hv
  rcases h1 with ⟨ha, hz, hl, hx⟩ | ⟨ha, v, hv1, hx⟩
  · refine Plain.of (v := .agg ((cs.toList.drop off).take (esz P t)).toArray) ?_ hx
    unfold part
    simp only [Sem.run_bind, run_isAgg hu, Result.andThen_ok, ha, if_true, run_sizeOf hz, Sem.run_pure]
    congr 2
    apply Array.ext'
    simp [Array.toList_extract, List.extract]
  · refine Plain.of (v := v) ?_ hx
    unfold part
    have : cs[off]? = some v := by simpa using hv1
    simp [Sem.run_bind, run_isAgg hu, Result.andThen_ok, ha, this]

theorem fieldsOf_is {t : TypeId} {f : Nat} {fd : Field} (h : fieldsOf P t f = some fd) : ∃ fs, P.underlying t = some (.struct fs) ∧ fs[f]? = some fd := by
  unfold fieldsOf at h
  split at h
  · rename_i fs hu; exact ⟨fs, hu, h⟩
  · cases h

theorem fieldV_sound {t : TypeId} {x : AV} {f : Nat} {v : Value} {e : Eff} (h : fieldV P t x f = some e) (hok : e.ok = true) (hx : V im φ x v) : Plain P φ im w (Instr.field t v f) e.val ∧ e.wr = [] := by
  unfold fieldV at h
  split at h
  · rename_i fd cs hf
    split at h
    · rename_i x' c hl
      cases h
      cases hx with
      | agg _ _ cs' hv =>
        obtain ⟨fs, hu, hfs⟩ := fieldsOf_is hf
        refine ⟨?_, rfl⟩
        obtain ⟨r, w', h1, h2, h3⟩ := part_sound (w := w) hl hok hv
        refine ⟨r, w', ?_, h2, h3⟩
        unfold Instr.field
        simp [run_underlying hu, hfs, asAgg, h1]
    · cases h
  · cases h

theorem fieldAddrV_sound {s : TypeId} {x : AV} {f : Nat} {v : Value} {e : Eff} (h : fieldAddrV P s x f = some e) (hx : V im φ x v) : Plain P φ im w (Instr.fieldAt s v f) e.val ∧ e.wr = [] := by
  unfold fieldAddrV at h
  split at h
  · rename_i fd hf
    obtain ⟨fs, hu, hfs⟩ := fieldsOf_is hf
    cases hz : Nat.beq (esz P fd.type) 0 with
    | true => rw [hz] at h; cases h
    | false =>
      rw [hz] at h
      have hz' : esz P fd.type ≠ 0 := fun e => by rw [e] at hz; cases hz
      have key : ∀ b o, (Instr.fieldAt s (.pointer (some ⟨b, o, none⟩)) f).run P w = .ok (.pointer (some ⟨b, o + fd.offset, none⟩)) w := by
        intro b o
        unfold Instr.fieldAt
        simp [run_underlying hu, hfs, Instr.sureAddr, fieldPlace, run_sizeOf hz', hz', Addr.add_lit]
      simp only [cond_false] at h
      split at h
      · rename_i i off
        cases h
        cases hx with
        | ptr _ _ _ l hl => exact ⟨Plain.of (key _ _) (.ptr _ _ _ l hl), rfl⟩
      · rename_i cells off
        cases h
        cases hx with
        | sptr _ _ _ b o cs vs him hvs hv =>
          refine ⟨Plain.of (key _ _) ?_, rfl⟩
          rw [Nat.add_assoc]
          exact .sptr _ _ _ b o cs vs him hvs hv
      · cases h
  · cases h

theorem indexAddrV_sound {t : TypeId} {x ix : AV} {v u : Value} {e : Eff} (h : indexAddrV P t x ix = some e) (hok : e.ok = true) (hx : V im φ x v) (hi : V im φ ix u) : Plain P φ im w (Instr.indexAt t v u) e.val ∧ e.wr = [] := by
  unfold indexAddrV at h
  split at h
  · rename_i k n
    cases hi
    split at h
    · rename_i len el hu
      cases hz : Nat.beq (esz P el) 0 with
      | true => rw [hz] at h; cases h
      | false =>
        rw [hz] at h
        have hz' : esz P el ≠ 0 := fun e => by rw [e] at hz; cases hz
        have key : (0 ≤ n ∧ n < len) → ∀ b o, (Instr.indexAt t (.pointer (some ⟨b, o, none⟩)) (.int k n)).run P w = .ok (.pointer (some ⟨b, o + n.toNat * esz P el, none⟩)) w := by
          intro hn b o
          unfold Instr.indexAt
          simp [asIntOf, run_underlying hu, Instr.sureAddr, hn, run_sizeOf hz', Addr.add_lit]
        simp only [cond_false] at h
        split at h
        · cases h
          have hn : 0 ≤ n ∧ n < len := by simpa using hok
          cases hx with
          | ptr _ _ _ l hl => exact ⟨Plain.of (key hn _ _) (.ptr _ _ _ l hl), rfl⟩
        · cases h
          have hn : 0 ≤ n ∧ n < len := by simpa using hok
          cases hx with
          | sptr _ _ _ b o cs vs him hvs hv =>
            refine ⟨Plain.of (key hn _ _) ?_, rfl⟩
            rw [Nat.add_assoc]
            exact .sptr _ _ _ b o cs vs him hvs hv
        · cases h
    · rename_i el hu
      cases hz : Nat.beq (esz P el) 0 with
      | true => rw [hz] at h; cases h
      | false =>
        rw [hz] at h
        have hz' : esz P el ≠ 0 := fun e => by rw [e] at hz; cases hz
        have key : ∀ len cap, (0 ≤ n ∧ n < (len : Nat)) → ∀ b o, (Instr.indexAt t (.slice (some ⟨b, o, none⟩) len cap) (.int k n)).run P w = .ok (.pointer (some ⟨b, o + n.toNat * esz P el, none⟩)) w := by
          intro len cap hn b o
          unfold Instr.indexAt
          simp [asIntOf, run_underlying hu, hn, run_sizeOf hz', Addr.add_lit]
        simp only [cond_false] at h
        split at h
        · rename_i i off len
          cases h
          have hn : 0 ≤ n ∧ n < len := by simpa using hok
          cases hx with
          | slc _ _ _ _ cap l hl _ _ => exact ⟨Plain.of (key _ _ hn _ _) (.ptr _ _ _ l hl), rfl⟩
          | slc0 => omega
        · rename_i cells len
          cases h
          have hn : 0 ≤ n ∧ n < len := by simpa using hok
          cases hx with
          | snap _ _ _ b o cap cs vs him hvs hv hle => exact ⟨Plain.of (key _ _ hn _ _) (.sptr _ _ _ b o cs vs him hvs hv), rfl⟩
          | snape => omega
        · cases h
    · cases h
  · cases h

theorem indexV_sound {t : TypeId} {x ix : AV} {v u : Value} {e : Eff} (h : indexV P t x ix = some e) (hok : e.ok = true) (hx : V im φ x v) (hi : V im φ ix u) : Plain P φ im w (Instr.index t v u) e.val ∧ e.wr = [] := by
  unfold indexV at h
  split at h
  · rename_i k n
    cases hi
    split at h
    · rename_i len el cs hu
      cases hz : Nat.beq (esz P el) 0 with
      | true => rw [hz] at h; cases h
      | false =>
        rw [hz] at h
        have hz' : esz P el ≠ 0 := fun e => by rw [e] at hz; cases hz
        simp only [cond_false] at h
        split at h
        · rename_i y c hl
          cases h
          have hok' : c = true ∧ (0 ≤ n ∧ n < len) := by simpa using hok
          cases hx with
          | agg _ _ cs' hv =>
            refine ⟨?_, rfl⟩
            obtain ⟨r, w', h1, h2, h3⟩ := part_sound (w := w) hl hok'.1 hv
            refine ⟨r, w', ?_, h2, h3⟩
            unfold Instr.index
            simp [asIntOf, run_underlying hu, hok'.2, run_sizeOf hz', h1]
        · cases h
    · rename_i s hu
      cases h
      have hn : 0 ≤ n ∧ n < (s.size : Int) := by simpa using hok
      cases hx
      have hlt : n.toNat < s.size := by omega
      have hg : s[n.toNat]? = some s[n.toNat] := by simp [hlt]
      refine ⟨Plain.of (v := .int .u8 (s[n.toNat].toNat : Int)) ?_ ?_, rfl⟩
      · unfold Instr.index
        simp [asIntOf, run_underlying hu, hn.1, hg]
      · simp only [hg, Option.map_some, Option.getD_some]
        exact .int _ _ _
    · cases h
  · cases h

end
end Go.Eng
/- Engine, part 8: slices of slices, building, and what writes one's own memory. Condition: what the evaluator says must hold, holds. -/
namespace Go.Eng
open Go Go.RowKit

inductive VO (φ : Phi) (im : Im) : Option AV → Option Value → Prop where
  | none : VO φ im none none
  | some (x : AV) (v : Value) (h : V im φ x v) : VO φ im (some x) (some v)

inductive VP (φ : Phi) (im : Im) : List (Nat × AV) → List (Nat × Value) → Prop where
  | nil : VP φ im [] []
  | cons (i : Nat) (x : AV) (v : Value) (xs : List (Nat × AV)) (vs : List (Nat × Value)) (h : V im φ x v) (hs : VP φ im xs vs) : VP φ im ((i, x) :: xs) ((i, v) :: vs)

section
variable {P : Program} {φ : Phi} {im : Im} {w : World}

theorem optInt_none {o : Option AV} {v : Option Value} (h : optInt o = some none) (hv : VO φ im o v) : v = none := by
  cases hv with
  | none => rfl
  | some x v hx => cases x <;> simp [optInt] at h
theorem optInt_some {o : Option AV} {v : Option Value} {n : Int} (h : optInt o = some (some n)) (hv : VO φ im o v) : ∃ k, v = some (.int k n) := by
  cases hv with
  | none => simp [optInt] at h
  | some x v hx =>
    cases x <;> simp [optInt] at h
    subst h
    cases hx
    exact ⟨_, rfl⟩

theorem run_sliceBound {k : IntKind} {n : Int} {y : Nat} (c : BoundsCode) (h0 : 0 ≤ n) (h1 : n ≤ y) (w : World) : (Instr.sliceBound (.int k n) y c).run P w = .ok n.toNat w := by
  unfold Instr.sliceBound
  simp [asIntOf, h0, h1]

/-- The three bounds of a slice of a slice, where they fit. -/
theorem run_sliceBounds {isS : Bool} {len cap : Nat} {lo hi mx : Option AV} {vl vh vm : Option Value} {lo' hi' mx' : Option Int} (hlo : optInt lo = some lo') (hhi : optInt hi = some hi') (hmx : optInt mx = some mx')
    (rl : VO φ im lo vl) (rh : VO φ im hi vh) (rm : VO φ im mx vm) (hcap : len ≤ cap)
    (h1 : 0 ≤ lo'.getD 0) (h2 : lo'.getD 0 ≤ hi'.getD (len : Int)) (h3 : hi'.getD (len : Int) ≤ len) (h4 : ∀ m, mx' = some m → hi'.getD (len : Int) ≤ m ∧ m ≤ len ∧ hi'.isSome = true) (w : World) :
    ∃ m : Nat, (Instr.sliceBounds isS len cap vl vh vm).run P w = .ok ((lo'.getD 0).toNat, (hi'.getD (len : Int)).toNat, m) w ∧ (hi'.getD (len : Int)).toNat ≤ m ∧ m ≤ cap := by
  cases mx' with
  | none =>
    have em := optInt_none hmx rm
    subst em
    refine ⟨cap, ?_, by omega, Nat.le_refl _⟩
    cases hi' with
    | none =>
      have eh := optInt_none hhi rh
      subst eh
      cases lo' with
      | none =>
        have el := optInt_none hlo rl
        subst el
        simp [Instr.sliceBounds]
      | some l =>
        obtain ⟨k, hk⟩ := optInt_some hlo rl
        subst hk
        simp only [Option.getD_some, Option.getD_none] at h1 h2 h3 ⊢
        simp [Instr.sliceBounds, run_sliceBound (P := P) _ h1 (show l ≤ (len : Int) from h2) w]
    | some hh =>
      obtain ⟨k, hk⟩ := optInt_some hhi rh
      subst hk
      simp only [Option.getD_some] at h2 h3 ⊢
      cases lo' with
      | none =>
        have el := optInt_none hlo rl
        subst el
        simp only [Option.getD_none] at h1 h2 ⊢
        simp [Instr.sliceBounds, run_sliceBound (P := P) _ h2 (show hh ≤ (cap : Int) by omega) w]
      | some l =>
        obtain ⟨k', hk'⟩ := optInt_some hlo rl
        subst hk'
        simp only [Option.getD_some] at h1 h2 ⊢
        simp [Instr.sliceBounds, run_sliceBound (P := P) _ (show 0 ≤ hh by omega) (show hh ≤ (cap : Int) by omega) w, run_sliceBound (P := P) _ h1 (show l ≤ (hh.toNat : Int) by omega) w]
  | some m =>
    obtain ⟨km, hkm⟩ := optInt_some hmx rm
    subst hkm
    obtain ⟨g1, g2, g3⟩ := h4 m rfl
    refine ⟨m.toNat, ?_, by omega, by omega⟩
    cases hi' with
    | none => simp at g3
    | some hh =>
      obtain ⟨k, hk⟩ := optInt_some hhi rh
      subst hk
      simp only [Option.getD_some] at h2 h3 g1 ⊢
      cases lo' with
      | none =>
        have el := optInt_none hlo rl
        subst el
        simp only [Option.getD_none] at h1 h2 ⊢
        simp [Instr.sliceBounds, run_sliceBound (P := P) _ (show 0 ≤ m by omega) (show m ≤ (cap : Int) by omega) w, run_sliceBound (P := P) _ h2 (show hh ≤ (m.toNat : Int) by omega) w]
      | some l =>
        obtain ⟨k', hk'⟩ := optInt_some hlo rl
        subst hk'
        simp only [Option.getD_some] at h1 h2 ⊢
        simp [Instr.sliceBounds, run_sliceBound (P := P) _ (show 0 ≤ m by omega) (show m ≤ (cap : Int) by omega) w, run_sliceBound (P := P) _ (show 0 ≤ hh by omega) (show hh ≤ (m.toNat : Int) by omega) w,
          run_sliceBound (P := P) _ h1 (show l ≤ (hh.toNat : Int) by omega) w]

theorem sliceV_sound {t : TypeId} {x : AV} {lo hi mx : Option AV} {v : Value} {vl vh vm : Option Value} {e : Eff} (h : sliceV P t x lo hi mx = some e) (hok : e.ok = true) (hx : V im φ x v)
    (rl : VO φ im lo vl) (rh : VO φ im hi vh) (rm : VO φ im mx vm) : Plain P φ im w (Instr.sliceAt t v vl vh vm) e.val ∧ e.wr = [] := by
  unfold sliceV at h
  split at h
  · rename_i lo' hi' mx' hlo hhi hmx
    split at h
    · rename_i el i off len hu
      dsimp only at h
      cases hz : Nat.beq (esz P el) 0 with
      | true => rw [hz] at h; cases h
      | false =>
        rw [hz] at h
        have hz' : esz P el ≠ 0 := fun e => by rw [e] at hz; cases hz
        simp only [cond_false] at h
        cases h
        simp only [Bool.and_eq_true, decide_eq_true_eq] at hok
        obtain ⟨⟨⟨h1, h2, h3⟩, h4⟩, h5⟩ := hok
        have h5' : ∀ m, mx' = some m → hi'.getD (len : Int) ≤ m ∧ m ≤ len ∧ hi'.isSome = true := by
          intro m hm; subst hm; simpa using h5
        have h4' : lo' = none ∨ lo'.getD 0 < hi'.getD (len : Int) := by
          cases lo' with
          | none => exact .inl rfl
          | some l => exact .inr (by simpa using h4)
        have hl0 : lo' = none → lo'.getD 0 = 0 := fun e => by rw [e]; rfl
        have key : ∀ (b : Option Addr) cap, len ≤ cap → ∃ m, (hi'.getD (len : Int)).toNat ≤ m ∧ m ≤ cap ∧ (Instr.sliceAt t (.slice b len cap) vl vh vm).run P w =
            .ok (.slice (if m = (lo'.getD 0).toNat then b else b.map (·.add ((lo'.getD 0).toNat * esz P el))) ((hi'.getD (len : Int)).toNat - (lo'.getD 0).toNat) (m - (lo'.getD 0).toNat)) w := by
          intro b cap hc
          obtain ⟨m, hm, hm1, hm2⟩ := run_sliceBounds (P := P) (isS := true) hlo hhi hmx rl rh rm hc h1 h2 h3 h5' w
          refine ⟨m, hm1, hm2, ?_⟩
          simp [Instr.sliceAt, Instr.slice, run_underlying hu, hm, run_sizeOf hz']
        cases hx with
        | slc _ _ _ _ cap l hl hle hc =>
          obtain ⟨m, hm1, hm2, hr⟩ := key (some ⟨l.blk, off, none⟩) cap hle
          refine ⟨Plain.of hr ?_, rfl⟩
          have ha : (if m = (lo'.getD 0).toNat then (some ⟨l.blk, off, none⟩ : Option Addr) else (some ⟨l.blk, off, none⟩ : Option Addr).map (·.add ((lo'.getD 0).toNat * esz P el))) = some ⟨l.blk, off + (lo'.getD 0).toNat * esz P el, none⟩ := by
            split
            · rename_i hm
              rcases h4' with h4' | h4'
              · rw [hl0 h4']; simp
              · omega
            · simp [Addr.add_lit]
          rw [ha, show (hi'.getD (len : Int) - lo'.getD 0).toNat = (hi'.getD (len : Int)).toNat - (lo'.getD 0).toNat by omega]
          refine .slc _ _ _ _ _ l hl (by omega) fun h0 => ?_
          have ho : off = 0 := by omega
          have := hc ho
          omega
        | slc0 =>
          obtain ⟨m, hm1, hm2, hr⟩ := key none 0 (Nat.le_refl _)
          refine ⟨Plain.of hr ?_, rfl⟩
          have e1 : m = 0 := by omega
          subst e1
          rw [show (hi'.getD ((0 : Nat) : Int) - lo'.getD 0).toNat = 0 by omega, show (hi'.getD ((0 : Nat) : Int)).toNat - (lo'.getD 0).toNat = 0 by omega]
          simp only [Option.map_none, ite_self, Nat.zero_sub]
          exact .slc0 _ _ _
    · rename_i el cells len hu
      dsimp only at h
      cases hz : Nat.beq (esz P el) 0 with
      | true => rw [hz] at h; cases h
      | false =>
        rw [hz] at h
        have hz' : esz P el ≠ 0 := fun e => by rw [e] at hz; cases hz
        simp only [cond_false] at h
        cases h
        simp only [Bool.and_eq_true, decide_eq_true_eq] at hok
        obtain ⟨⟨⟨h1, h2, h3⟩, h4⟩, h5⟩ := hok
        have h5' : ∀ m, mx' = some m → hi'.getD (len : Int) ≤ m ∧ m ≤ len ∧ hi'.isSome = true := by
          intro m hm; subst hm; simpa using h5
        have h4' : lo' = none ∨ lo'.getD 0 < hi'.getD (len : Int) := by
          cases lo' with
          | none => exact .inl rfl
          | some l => exact .inr (by simpa using h4)
        have hl0 : lo' = none → lo'.getD 0 = 0 := fun e => by rw [e]; rfl
        have key : ∀ (b : Option Addr) cap, len ≤ cap → ∃ m, (hi'.getD (len : Int)).toNat ≤ m ∧ m ≤ cap ∧ (Instr.sliceAt t (.slice b len cap) vl vh vm).run P w =
            .ok (.slice (if m = (lo'.getD 0).toNat then b else b.map (·.add ((lo'.getD 0).toNat * esz P el))) ((hi'.getD (len : Int)).toNat - (lo'.getD 0).toNat) (m - (lo'.getD 0).toNat)) w := by
          intro b cap hc
          obtain ⟨m, hm, hm1, hm2⟩ := run_sliceBounds (P := P) (isS := true) hlo hhi hmx rl rh rm hc h1 h2 h3 h5' w
          refine ⟨m, hm1, hm2, ?_⟩
          simp [Instr.sliceAt, Instr.slice, run_underlying hu, hm, run_sizeOf hz']
        have emp : ∀ (b : Option Addr) cap, len = 0 → ∃ r, (Instr.sliceAt t (.slice b len cap) vl vh vm).run P w = .ok r w ∧ V im φ (.snap (cells.drop ((lo'.getD 0).toNat * esz P el)) (hi'.getD (len : Int) - lo'.getD 0).toNat) r := by
          intro b cap e2
          subst e2
          obtain ⟨m, hm1, hm2, hr⟩ := key b cap (Nat.zero_le _)
          refine ⟨_, hr, ?_⟩
          rw [show (hi'.getD ((0 : Nat) : Int) - lo'.getD 0).toNat = 0 by omega, show (hi'.getD ((0 : Nat) : Int)).toNat - (lo'.getD 0).toNat = 0 by omega]
          exact .snape _ _ _ _
        cases hx with
        | snap _ _ _ b o cap cs vs him hvs hv hle =>
          obtain ⟨m, hm1, hm2, hr⟩ := key (some ⟨b, o, none⟩) cap hle
          refine ⟨Plain.of hr ?_, rfl⟩
          have ha : (if m = (lo'.getD 0).toNat then (some ⟨b, o, none⟩ : Option Addr) else (some ⟨b, o, none⟩ : Option Addr).map (·.add ((lo'.getD 0).toNat * esz P el))) = some ⟨b, o + (lo'.getD 0).toNat * esz P el, none⟩ := by
            split
            · rename_i hm
              rcases h4' with h4' | h4'
              · rw [hl0 h4']; simp
              · omega
            · simp [Addr.add_lit]
          rw [ha, show (hi'.getD (len : Int) - lo'.getD 0).toNat = (hi'.getD (len : Int)).toNat - (lo'.getD 0).toNat by omega]
          refine .snap _ _ _ b _ _ cs (vs.drop ((lo'.getD 0).toNat * esz P el)) him ?_ (hv.drop _) (by omega)
          subst hvs
          rw [List.length_drop, List.drop_take, List.drop_drop]
        | snape _ _ x cap =>
          obtain ⟨r, hr, hv⟩ := emp x cap rfl
          exact ⟨Plain.of hr hv, rfl⟩
    · rename_i s hu
      dsimp only at h
      split at h
      · cases h
        have hok' : 0 ≤ lo'.getD 0 ∧ lo'.getD 0 ≤ hi'.getD (s.size : Int) ∧ hi'.getD (s.size : Int) ≤ s.size := by simpa using hok
        obtain ⟨h1, h2, h3⟩ := hok'
        cases hx
        have hm := optInt_none hmx rm
        subst hm
        obtain ⟨m, hm, hm1, hm2⟩ := run_sliceBounds (P := P) (isS := false) hlo hhi hmx rl rh rm (Nat.le_refl s.size) h1 h2 h3 (fun m hm => by cases hm) w
        refine ⟨Plain.of (v := .string (s.extract (lo'.getD 0).toNat (hi'.getD (s.size : Int)).toNat)) ?_ (.str _ _), rfl⟩
        simp [Instr.sliceAt, Instr.slice, run_underlying hu, hm]
      · cases h
    · cases h
  · cases h

/-! ### Cells set in a row -/
theorem setL_eq {α : Type} : ∀ (xs cells : List α) (off : Nat), off + xs.length ≤ cells.length → setL cells off xs = cells.take off ++ xs ++ cells.drop (off + xs.length)
  | [], cells, off, _ => by simp [setL]
  | x :: xs, cells, off, h => by
    simp only [List.length_cons] at h
    rw [setL, setL_eq xs _ _ (by simp; omega)]
    have hlt : off < (cells.set off x).length := by simp; omega
    have e1 : (cells.set off x).take (off + 1) = cells.take off ++ [x] := by
      rw [List.take_succ_eq_append_getElem hlt]
      simp [List.take_set_of_le]
    have e2 : (cells.set off x).drop (off + 1 + xs.length) = cells.drop (off + (xs.length + 1)) := by
      rw [List.drop_set_of_lt (by omega)]
      congr 1
      omega
    rw [e1, e2]
    simp

theorem length_setL {α : Type} : ∀ (xs cells : List α) (off : Nat), (setL cells off xs).length = cells.length
  | [], _, _ => rfl
  | x :: xs, cells, off => by rw [setL, length_setL xs]; simp

theorem VL.setL : ∀ {xs : List AV} {us : List Value} {cells : List AV} {vs : List Value} (off : Nat), VL im φ cells vs → VL im φ xs us → VL im φ (Eng.setL cells off xs) (Eng.setL vs off us)
  | _, _, _, _, _, h, .nil _ => h
  | _, _, _, _, off, h, .cons _ x v xs vs hx hs => VL.setL (off + 1) (h.set off x v hx) hs

theorem foldl_set (off : Nat) : ∀ (l : List Value) (k : Nat) (A : Array Value), ((l.zipIdx k).foldl (fun (cs : Array Value) (p : Value × Nat) => cs.setIfInBounds (off + p.2) p.1) A).toList = Eng.setL A.toList (off + k) l
  | [], _, _ => rfl
  | v :: l, k, A => by
    simp only [List.zipIdx_cons, List.foldl_cons]
    rw [foldl_set off l (k + 1)]
    simp [Eng.setL, Nat.add_assoc]

theorem fillV_sound (place : Nat → Option (Nat × Nat)) {ps : List (Nat × AV)} {qs : List (Nat × Value)} (hp : VP φ im ps qs) : ∀ {cells cs : List AV} {A : Array Value}, fillV place cells ps = some cs → VL im φ cells A.toList →
    ∃ A', Instr.fill place A qs = some A' ∧ VL im φ cs A'.toList := by
  induction hp with
  | nil =>
    intro cells cs A h hv
    simp only [fillV, Option.some.injEq] at h
    subst h
    exact ⟨A, rfl, hv⟩
  | cons i x v xs vs hx hs ih =>
    intro cells cs A h hv
    simp only [fillV] at h
    split at h
    · cases h
    · rename_i off size hp
      cases hc : (Nat.beq x.cells.length size && Nat.ble (off + size) cells.length) with
      | false => rw [hc] at h; cases h
      | true =>
        rw [hc] at h
        simp only [cond_true] at h
        simp only [Bool.and_eq_true, Nat.ble_eq] at hc
        have h1 : x.cells.length = size := Nat.eq_of_beq_eq_true hc.1
        have hcells := hx.cells
        have hlen : v.cells.size = size := by have := hcells.length; rw [h1] at this; simpa using this.symm
        have hA := hv.length
        have hA' : cells.length = A.size := by simpa using hA
        have hset := VL.setL off hv hcells
        have e := foldl_set off v.cells.toList 0 A
        simp only [Nat.add_zero] at e
        rw [← e] at hset
        obtain ⟨A', h2, h3⟩ := ih h hset
        refine ⟨A', ?_, h3⟩
        unfold Instr.fill
        rw [hp]
        simp only [hlen, ne_eq, not_true_eq_false, decide_false, Bool.false_or, decide_eq_true_eq]
        rw [if_neg (by omega)]
        rw [← Array.foldl_toList]
        simpa using h2

end
end Go.Eng
/- Engine, part 9: building; what makes or writes one's own memory. Condition: what the evaluator says must hold, holds. -/
namespace Go.Eng
open Go Go.RowKit

def updL (h : AHeap) : List (Nat × Option ABlk) → AHeap
  | [] => h
  | p :: ps => updL (upd h p.1 p.2) ps

/-- What an operation has done: memory and places stand to the abstract heap as the effect says. -/
structure Did (P : Program) (base : Nat) (φ : Phi) (im : Im) (h : AHeap) (w : World) (lo hi : Nat) (e : Eff) (r : Value) (w' : World) (φ' : Phi) : Prop where
  le : Phi.le φ φ'
  news : ∀ i, φ' i ≠ none → φ i ≠ none ∨ (lo ≤ i ∧ i < hi)
  hrep : HRep P base φ' im (updL h e.wr) w'
  below : Below base w w'
  val : V im φ' e.val r

section
variable {P : Program} {base : Nat} {φ : Phi} {im : Im} {h : AHeap} {w : World} {lo hi : Nat}

theorem Plain.did {s : Sem Value} {e : Eff} (H : HRep P base φ im h w) (p : Plain P φ im w s e.val) (hw : e.wr = []) : ∃ r w', s.run P w = .ok r w' ∧ Did P base φ im h w lo hi e r w' φ := by
  obtain ⟨r, w', h1, h2, h3⟩ := p
  refine ⟨r, w', h1, Phi.le_refl _, fun i hi => .inl hi, ?_, ?_, h3⟩
  · rw [hw]
    rcases h2 with rfl | rfl
    · exact H
    · exact H.heap_eq rfl
  · rcases h2 with rfl | rfl
    · exact Below.refl _ _
    · exact (Below.refl _ _).drew

theorem zeroV_is {t : TypeId} {z : AV} (hz : zeroV P t = some z) : ∃ i v, P.info? t = some i ∧ i.zero = some v ∧ ∀ {φ : Phi} {im : Im}, V im φ z v := by
  unfold zeroV at hz
  cases hi : P.info? t with
  | none => rw [hi] at hz; cases hz
  | some i =>
    rw [hi] at hz
    dsimp only at hz
    cases hv : i.zero with
    | none => rw [hv] at hz; cases hz
    | some v =>
      rw [hv] at hz
      exact ⟨i, v, rfl, hv, fun {_ _} => ofConst_V hz⟩

theorem run_zero {t : TypeId} {i : TypeInfo} {v : Value} (hi : P.info? t = some i) (hz : i.zero = some v) (w : World) : (zeroValue t).run P w = .ok v w := by simp [zeroValue, typeInfo, hi, hz]

theorem esz_is {t : TypeId} {i : TypeInfo} (hi : P.info? t = some i) : esz P t = i.size := by simp [esz, hi]

theorem buildV_sound {t : TypeId} {ps : List (Nat × AV)} {qs : Array (Nat × Value)} {e : Eff} (hb : buildV P t ps = some e) (hp : VP φ im ps qs.toList) : Plain P φ im w (Instr.build t qs) e.val ∧ e.wr = [] := by
  unfold buildV at hb
  cases hz : zeroV P t with
  | none => rw [hz] at hb; cases hb
  | some z =>
    rw [hz] at hb
    obtain ⟨it, v, hit, hv, hzv⟩ := zeroV_is hz
    have hc : VL im φ z.cells v.cells.toList := (hzv (φ := φ) (im := im)).cells
    dsimp only at hb
    split at hb
    · rename_i fs hu
      cases hpl : placesOf P fs.toList with
      | none => rw [hpl] at hb; cases hb
      | some pl =>
        rw [hpl] at hb
        dsimp only at hb
        cases hf : fillV (fun i => pl.toArray[i]?) z.cells ps with
        | none => rw [hf] at hb; cases hb
        | some cs =>
          rw [hf] at hb
          cases hb
          obtain ⟨A', h1, h2⟩ := fillV_sound _ hp hf hc
          refine ⟨Plain.of (run_build w t qs A' ?_) (.agg _ _ _ h2), rfl⟩
          unfold Program.built
          have : (List.mapM (fun f => Option.map (fun i => (f.offset, i.size)) (P.info? f.type)) fs.toList) = some pl := hpl
          simp only [hit, hu, hv, this]
          exact h1
    · rename_i n el hu
      cases hie : P.info? el with
      | none => rw [hie] at hb; cases hb
      | some ie =>
        rw [hie] at hb
        dsimp only at hb
        cases hf : fillV (fun i => some (i * ie.size, ie.size)) z.cells ps with
        | none => rw [hf] at hb; cases hb
        | some cs =>
          rw [hf] at hb
          cases hb
          obtain ⟨A', h1, h2⟩ := fillV_sound _ hp hf hc
          refine ⟨Plain.of (run_build w t qs A' ?_) (.agg _ _ _ h2), rfl⟩
          unfold Program.built
          simp only [hit, hu, hv, hie]
          exact h1
    · cases hb

theorem news_upd {n : Nat} {l : Loc} (h1 : lo ≤ n) (h2 : n < hi) : ∀ i, upd φ n (some l) i ≠ none → φ i ≠ none ∨ (lo ≤ i ∧ i < hi) := by
  intro i hi'
  by_cases e : i = n
  · subst e; exact .inr ⟨h1, h2⟩
  · rw [upd_other _ _ _ e] at hi'; exact .inl hi'

/-- A new variable. -/
theorem newVar_did (H : HRep P base φ im h w) (hbase : base ≤ w.heap.size) {n : Nat} (hn : φ n = none) (h1 : lo ≤ n) (h2 : n < hi) {t : TypeId} {x : AV} {v : Value} (hx : V im φ x v) (hsz : x.cells.length = esz P t) :
    Did P base φ im h w lo hi ⟨.ptr n 0, [(n, some ⟨x.cells, t⟩)], [], true⟩ (.pointer (some ⟨w.heap.size, 0, none⟩)) (w.alloc (.cells v.cells t)) (upd φ n (some ⟨w.heap.size, 1⟩)) := by
  have hc := hx.cells
  have hl := hc.length
  refine ⟨Phi.le_upd hn _, news_upd h1 h2, ?_, (Below.refl _ _).alloc hbase _, .ptr _ n 0 ⟨w.heap.size, 1⟩ (upd_same _ _ _)⟩
  refine H.alloc hn 1 v.cells ⟨x.cells, t⟩ hbase (by unfold maxLen; omega) ?_ ?_
  · have : v.cells.size = x.cells.length := by simpa using hl.symm
    simp only [Nat.one_mul]
    omega
  · dsimp only
    rw [List.take_of_length_le (by omega)]
    exact hc

theorem allocV_sound (H : HRep P base φ im h w) (hbase : base ≤ w.heap.size) {n : Nat} (hn : φ n = none) (h1 : lo ≤ n) (h2 : n < hi) {t : TypeId} {e : Eff} (ha : allocV P t n = some e) :
    ∃ r w' φ', (Instr.alloc t true (.tuple #[])).run P w = .ok r w' ∧ Did P base φ im h w lo hi e r w' φ' := by
  unfold allocV at ha
  split at ha
  · rename_i z hz
    cases hc : Nat.beq z.cells.length (esz P t) with
    | false => rw [hc] at ha; cases ha
    | true =>
      rw [hc] at ha
      cases ha
      obtain ⟨it, v, hit, hv, hzv⟩ := zeroV_is hz
      refine ⟨_, _, _, ?_, newVar_did H hbase hn h1 h2 hzv (Nat.eq_of_beq_eq_true hc)⟩
      simp [Instr.alloc, run_zero hit hv, newVar, newRow]
  · cases ha

theorem boxV_sound (H : HRep P base φ im h w) (hbase : base ≤ w.heap.size) {n : Nat} (hn : φ n = none) (h1 : lo ≤ n) (h2 : n < hi) {t : TypeId} {x : AV} {v : Value} (hx : V im φ x v) {e : Eff} (ha : boxV P t x n = some e) :
    ∃ r w' φ', (Instr.box t v).run P w = .ok r w' ∧ Did P base φ im h w lo hi e r w' φ' := by
  unfold boxV at ha
  cases hc : Nat.beq x.cells.length (esz P t) with
  | false => rw [hc] at ha; cases ha
  | true =>
    rw [hc] at ha
    cases ha
    refine ⟨_, _, _, ?_, newVar_did H hbase hn h1 h2 hx (Nat.eq_of_beq_eq_true hc)⟩
    simp [Instr.box, newVar, newRow]

theorem flatten_cells {z : Array Value} (hz : 0 < z.size) : ∀ n, (madeCells z (n * z.size)).toList = (List.replicate n z.toList).flatten := by
  intro n
  apply List.ext_getElem?
  intro j
  have hlen : ((List.replicate n z.toList).flatten).length = n * z.size := by simp
  by_cases hj : j < n * z.size
  · have hm : j % z.size < z.size := Nat.mod_lt _ hz
    have h1 : (madeCells z (n * z.size)).toList[j]? = some z[j % z.size] := by
      have : (madeCells z (n * z.size))[j]? = some z[j % z.size] := by
        unfold madeCells
        simp [hj, hm]
      simpa using this
    rw [h1]
    clear h1 hlen
    induction n generalizing j with
    | zero => simp at hj
    | succ n ih =>
      rw [List.replicate_succ, List.flatten_cons]
      by_cases hlt : j < z.size
      · rw [List.getElem?_append_left (by simpa using hlt)]
        have : j % z.size = j := Nat.mod_eq_of_lt hlt
        simp [this, hlt]
      · rw [List.getElem?_append_right (by simp; omega)]
        have e : (j - z.size) % z.size = j % z.size := by
          rw [Nat.mod_eq_sub_mod (Nat.le_of_not_lt hlt)]
        have := ih (j - z.size) (by rw [Nat.add_mul] at hj; omega) (Nat.mod_lt _ hz)
        simp only [e] at this
        simpa using this
  · rw [List.getElem?_eq_none (by rw [Array.length_toList, size_madeCells]; omega), List.getElem?_eq_none (by rw [hlen]; omega)]

theorem repV_eq (z : List AV) (n : Nat) : repV z n = (List.replicate n z).flatten := by
  unfold repV
  split
  · rename_i x
    induction n with
    | zero => rfl
    | succ n ih => rw [List.replicate_succ, List.replicate_succ, List.flatten_cons, ← ih]; rfl
  · rfl

theorem VL.rep {z : List AV} {zs : List Value} (hz : VL im φ z zs) : ∀ n, VL im φ (List.replicate n z).flatten (List.replicate n zs).flatten
  | 0 => .nil _
  | n + 1 => by
    rw [List.replicate_succ, List.replicate_succ, List.flatten_cons, List.flatten_cons]
    exact hz.append (VL.rep hz n)

theorem sliceElem_is {t e : TypeId} (hs : sliceElem P t = some e) : P.underlying t = some (.slice e) := by
  unfold sliceElem at hs
  split at hs
  · rename_i e' hu; cases hs; exact hu
  · cases hs

theorem take_flatten {α : Type} (z : List α) {l c : Nat} (hlc : l ≤ c) : ((List.replicate c z).flatten).take (l * z.length) = (List.replicate l z).flatten := by
  obtain ⟨d, rfl⟩ : ∃ d, c = l + d := ⟨c - l, by omega⟩
  rw [← List.replicate_append_replicate, List.flatten_append]
  have : l * z.length = ((List.replicate l z).flatten).length := by simp
  rw [this, List.take_left']
  rfl

/-- A new row at an address of its own. -/
theorem newRow_did (H : HRep P base φ im h w) (hbase : base ≤ w.heap.size) {n : Nat} (hn : φ n = none) (h1 : lo ≤ n) (h2 : n < hi) {el : TypeId} {cells : List AV} {A : Array Value} {len cap : Nat} {ok : Bool} {rd : List Nat}
    (hv : VL im φ cells (A.toList.take cells.length)) (hcap : cap ≤ maxLen) (hsz : cap * esz P el ≤ A.size) (hle : len ≤ cap) {w1 : World} (hw1 : w1 = w ∨ w1 = w.drew) :
    Did P base φ im h w lo hi ⟨.slc n 0 len, [(n, some ⟨cells, el⟩)], rd, ok⟩ (.slice (some ⟨w.heap.size, 0, none⟩) len cap) (w1.alloc (.cells A el)) (upd φ n (some ⟨w.heap.size, cap⟩)) := by
  have hs : w1.heap.size = w.heap.size := by rcases hw1 with rfl | rfl <;> rfl
  have H1 : HRep P base φ im h w1 := by rcases hw1 with rfl | rfl; exact H; exact H.heap_eq rfl
  have hb1 : Below base w w1 := by rcases hw1 with rfl | rfl; exact Below.refl _ _; exact (Below.refl _ _).drew
  rw [← hs]
  exact ⟨Phi.le_upd hn _, news_upd h1 h2, H1.alloc hn cap A ⟨cells, el⟩ (by omega) hcap hsz hv, hb1.alloc (by omega) _, .slc _ n 0 len cap ⟨w1.heap.size, cap⟩ (upd_same _ _ _) hle (fun _ => Nat.le_refl _)⟩

theorem makeV_sound (H : HRep P base φ im h w) (hbase : base ≤ w.heap.size) {n : Nat} (hn : φ n = none) (h1 : lo ≤ n) (h2 : n < hi) {t : TypeId} {l c : AV} {vl vc : Value} (hl : V im φ l vl) (hc : V im φ c vc) {e : Eff} (hm : makeV P t l c n = some e) (hok : e.ok = true) :
    ∃ r w' φ', (Instr.makeSlice t vl vc).run P w = .ok r w' ∧ Did P base φ im h w lo hi e r w' φ' := by
  unfold makeV at hm
  split at hm
  · rename_i k1 l k2 c el hel
    cases hl
    cases hc
    split at hm
    · rename_i z i hz hi'
      cases hc : (Nat.beq z.cells.length i.size && Nat.blt 0 i.size) with
      | false => rw [hc] at hm; cases hm
      | true =>
        rw [hc] at hm
        cases hm
        simp only [Bool.and_eq_true, Nat.blt_eq] at hc
        have hzl : z.cells.length = i.size := Nat.eq_of_beq_eq_true hc.1
        have hok' : 0 ≤ l ∧ l ≤ c ∧ (i.bytes : Int) * c ≤ 281474976710656 ∧ c ≤ 9223372036854775807 := by simpa using hok
        obtain ⟨a1, a2, a3, a4⟩ := hok'
        obtain ⟨i', v, hit, hv, hzv⟩ := zeroV_is hz
        rw [hi'] at hit
        cases hit
        have hcells : VL im φ z.cells v.cells.toList := (hzv (φ := φ) (im := im)).cells
        have hvs : v.cells.size = i.size := by have := hcells.length; rw [hzl] at this; simpa using this.symm
        refine ⟨_, _, upd φ n (some ⟨w.heap.size, c.toNat⟩), run_make w t el i v (sliceElem_is hel) hi' hv k1 k2 l c a1 a2 a3 a4, ?_⟩
        refine newRow_did H hbase hn h1 h2 (w1 := w) ?_ (by unfold maxLen; omega) (by rw [esz_is hi', size_madeCells]; exact Nat.le_refl _) (by omega) (.inl rfl)
        rw [repV_eq]
        have e1 : (madeCells v.cells (c.toNat * i.size)).toList = (List.replicate c.toNat v.cells.toList).flatten := by rw [← hvs]; exact flatten_cells (by omega) _
        rw [e1]
        have e2 : ((List.replicate l.toNat z.cells).flatten).length = l.toNat * v.cells.toList.length := by simp [hzl, hvs]
        rw [e2, take_flatten _ (by omega)]
        exact VL.rep hcells _
    · cases hm
  · cases hm

theorem buildSliceV_sound (H : HRep P base φ im h w) (hbase : base ≤ w.heap.size) {n : Nat} (hn : φ n = none) (h1 : lo ≤ n) (h2 : n < hi) {t : TypeId} {len : Nat} {ps : List (Nat × AV)} {qs : Array (Nat × Value)} (hp : VP φ im ps qs.toList) {e : Eff} (hm : buildSliceV P t len ps n = some e) :
    ∃ r w' φ', (Instr.buildSlice t len qs).run P w = .ok r w' ∧ Did P base φ im h w lo hi e r w' φ' := by
  unfold buildSliceV at hm
  cases hel : sliceElem P t with
  | none => rw [hel] at hm; cases hm
  | some el =>
    rw [hel] at hm
    dsimp only at hm
    cases hz : zeroV P el with
    | none => rw [hz] at hm; cases hm
    | some z =>
      rw [hz] at hm
      dsimp only at hm
      cases hc : (Nat.beq z.cells.length (esz P el) && Nat.ble (len * esz P el) 16777216 && Nat.blt 0 (esz P el)) with
      | false => rw [hc] at hm; cases hm
      | true =>
        rw [hc] at hm
        simp only [cond_true] at hm
        simp only [Bool.and_eq_true, Nat.blt_eq, Nat.ble_eq] at hc
        have hzl : z.cells.length = esz P el := Nat.eq_of_beq_eq_true hc.1.1
        obtain ⟨i, v, hit, hv, hzv⟩ := zeroV_is hz
        have hei := esz_is hit
        have hcells : VL im φ z.cells v.cells.toList := (hzv (φ := φ) (im := im)).cells
        have hvs : v.cells.size = i.size := by have := hcells.length; rw [hzl, hei] at this; simpa using this.symm
        cases hf : fillV (fun i => some (i * esz P el, esz P el)) (repV z.cells len) ps with
        | none => rw [hf] at hm; cases hm
        | some cs =>
          rw [hf] at hm
          cases hm
          have e1 : (madeCells v.cells (len * i.size)).toList = (List.replicate len v.cells.toList).flatten := by rw [← hvs]; exact flatten_cells (by omega) _
          have hrow : VL im φ (repV z.cells len) (madeCells v.cells (len * i.size)).toList := by rw [repV_eq, e1]; exact VL.rep hcells _
          obtain ⟨A', g1, g2⟩ := fillV_sound _ hp hf hrow
          have hfl : ∀ {ps' : List (Nat × AV)} {c c' : List AV}, fillV (fun i => some (i * esz P el, esz P el)) c ps' = some c' → c'.length = c.length := by
            intro ps'
            induction ps' with
            | nil => intro c c' hh; simp only [fillV, Option.some.injEq] at hh; rw [hh]
            | cons p ps' ih =>
              intro c c' hh
              obtain ⟨pi, pv⟩ := p
              simp only [fillV] at hh
              cases hcc : (Nat.beq pv.cells.length (esz P el) && Nat.ble (pi * esz P el + esz P el) c.length) with
              | false => rw [hcc] at hh; cases hh
              | true => rw [hcc] at hh; rw [ih hh, length_setL]
          have hlen : cs.length = A'.size := by simpa using g2.length
          have hcl : cs.length = len * i.size := by rw [hfl hf, repV_eq]; simp [hzl, hei]
          have hsmall : len ≤ len * i.size := Nat.le_mul_of_pos_right _ (by omega)
          have hbig : len * i.size ≤ 16777216 := by rw [← hei]; exact hc.1.2
          refine ⟨_, w.alloc (.cells A' el), _, ?_, newRow_did H hbase hn h1 h2 (cap := len) (w1 := w) (A := A') ?_ (by unfold maxLen; omega) (by rw [hei, ← hlen, hcl]; exact Nat.le_refl _) (Nat.le_refl _) (.inl rfl)⟩
          · unfold Instr.buildSlice
            have hsz : (sizeOf el).run P w = .ok i.size w := by simp [sizeOf, typeInfo, hit]
            have hn' : ¬ (len * i.size > 2 ^ 24) := by omega
            rw [hei] at g1
            by_cases h0 : len * i.size = 0
            · have hl0 : len = 0 := by rcases Nat.mul_eq_zero.1 h0 with hh | hh; exact hh; omega
              subst hl0
              have hm0 : madeCells v.cells (0 * i.size) = #[] := by simp [madeCells]
              rw [hm0] at g1
              simp [run_underlying (sliceElem_is hel), hsz, Array.range_zero', g1, newRow]
            · have hm1 : (Array.range (len * i.size)).map (fun x => v.cells[x % v.cells.size]!) = madeCells v.cells (len * i.size) := rfl
              simp only [Sem.run_bind, run_underlying (sliceElem_is hel), Result.andThen_ok, hsz, Sem.run_ite, if_neg hn', if_neg h0, run_zero hit hv, Sem.run_pure]
              simp [hm1, g1, newRow]
          · rw [List.take_of_length_le (by rw [hlen]; simp)]
            exact g2

end
end Go.Eng
/- Engine, part 10: loads, stores, appends. Condition: what the evaluator says must hold, holds. -/
namespace Go.Eng
open Go Go.RowKit

section
variable {P : Program} {base : Nat} {φ : Phi} {im : Im} {h : AHeap} {w : World} {lo hi : Nat}

theorem loadOp_sound (H : HRep P base φ im h w) {t : TypeId} {x : AV} {v : Value} {e : Eff} (hl : loadOp P t x h = some e) (hok : e.ok = true) (hx : V im φ x v) : Plain P φ im w (Instr.loadAt t v) e.val ∧ e.wr = [] := by
  unfold loadOp at hl
  split at hl
  · rename_i i off
    split at hl
    · rename_i b hb
      split at hl
      · rename_i y c hc
        cases hl
        cases hx with
        | ptr _ _ _ l hl =>
          rcases H.own i b hb with ⟨a1, _⟩ | ⟨l', cs, a1, a2, a3, a4, a5, a6, a7⟩
          · rw [hl] at a1; cases a1
          rw [hl] at a1
          cases a1
          refine ⟨?_, rfl⟩
          have := loadVar_sound (P := P) (w := w) hc hok a7 l.blk 0 (fun j u hj => by
            rw [List.getElem?_take] at hj
            split at hj
            · rw [Nat.zero_add]
              unfold World.cell?
              simp only [a2, Option.isSome_none, Bool.false_eq_true, if_false]
              simpa using hj
            · cases hj)
          rw [Nat.zero_add] at this
          obtain ⟨r, w', h1, h2, h3⟩ := this
          exact ⟨r, w', by simp [Instr.loadAt, Instr.sureAddr, h1], h2, h3⟩
      · cases hl
    · cases hl
  · rename_i cells off
    split at hl
    · rename_i y c hc
      cases hl
      cases hx with
      | sptr _ _ _ b o cs vs him hvs hv =>
        refine ⟨?_, rfl⟩
        obtain ⟨e1, f1, hheap⟩ := H.imh b cs him
        have := loadVar_sound (P := P) (w := w) hc hok hv b o (fun j u hj => by
          subst hvs
          rw [List.getElem?_take] at hj
          split at hj
          · rw [List.getElem?_drop] at hj
            unfold World.cell?
            simp only [hheap, Option.isSome_none, Bool.false_eq_true, if_false]
            simpa using hj
          · cases hj)
        obtain ⟨r, w', h1, h2, h3⟩ := this
        exact ⟨r, w', by simp [Instr.loadAt, Instr.sureAddr, h1], h2, h3.mono (Phi.none_le _) (Im.le_refl _)⟩
    · cases hl
  · cases hl

theorem one_of {x : AV} {v : Value} (hx : V im φ x v) (h1 : x.one = true) : v.oneCell' = true := by
  cases hx <;> simp_all [AV.one, Value.oneCell']

theorem ones_of {xs : List AV} {vs : List Value} (hx : VL im φ xs vs) (h1 : xs.all AV.one = true) : ∀ v ∈ vs, v.oneCell' = true := by
  induction xs generalizing vs with
  | nil => cases hx; simp
  | cons x xs ih =>
    cases hx with
    | cons _ _ v _ vs' h hs =>
      simp only [List.all_cons, Bool.and_eq_true] at h1
      intro u hu
      simp only [List.mem_cons] at hu
      rcases hu with rfl | hu
      · exact one_of h h1.1
      · exact ih hs h1.2 u hu

theorem esz_run {t : TypeId} {n : Nat} (hne : esz P t = n) (hn : n ≠ 0) (w : World) : (sizeOf t).run P w = .ok n w := by
  subst hne
  exact run_sizeOf hn w

theorem cells_pos (x : AV) (h : x.cells.length = 0) : x = .agg [] := by
  cases x <;> simp_all [AV.cells]

theorem storeOp_sound (H : HRep P base φ im h w) {t : TypeId} {a x : AV} {va v : Value} {e : Eff} (hs : storeOp P t a x h = some e) (hok : e.ok = true) (ha : V im φ a va) (hx : V im φ x v) :
    ∃ w', (Instr.storeAt t va v).run P w = .ok () w' ∧ Did P base φ im h w lo hi e undef w' φ := by
  unfold storeOp at hs
  split at hs
  · rename_i i off
    split at hs
    · rename_i b hb
      cases hz : Nat.beq x.cells.length (esz P t) && Nat.blt 0 (esz P t) with
      | false => rw [hz] at hs; cases hs
      | true =>
        rw [hz] at hs
        cases hs
        simp only [Bool.and_eq_true, Nat.blt_eq] at hz
        have hlen : x.cells.length = esz P t := Nat.eq_of_beq_eq_true hz.1
        simp only [Bool.and_eq_true, Nat.ble_eq] at hok
        cases ha with
        | ptr _ _ _ l hl =>
          rcases H.own i b hb with ⟨a1, _⟩ | ⟨l', cs, a1, a2, a3, a4, a5, a6, a7⟩
          · rw [hl] at a1; cases a1
          rw [hl] at a1
          cases a1
          have hc := hx.cells
          have hcl : v.cells.size = x.cells.length := by simpa using hc.length.symm
          have hbl : b.cells.length ≤ cs.size := by
            have := a7.length
            rw [List.length_take] at this
            simp at this
            omega
          have hst := run_storeCells_at P l.blk off b.ety v.cells.toList 0 cs w a2 (by simp only [Array.length_toList]; omega) (ones_of hc hok.2)
          simp only [Nat.add_zero] at hst
          have hrow : (cs.toList.take off ++ v.cells.toList ++ cs.toList.drop (off + v.cells.toList.length)) = setL cs.toList off v.cells.toList := by
            rw [setL_eq _ _ _ (by simp only [Array.length_toList]; omega)]
          rw [hrow] at hst
          refine ⟨w.setRow l.blk (setL cs.toList off v.cells.toList).toArray, ?_, Phi.le_refl _, fun i hi => .inl hi, ?_, ?_, .undef _⟩
          · unfold Instr.storeAt storeVar
            have hne : esz P t ≠ 0 := by omega
            simp only [Instr.sureAddr, Sem.run_bind, Sem.run_pure, Result.andThen_ok, run_sizeOf hne, hcl, hlen, ne_eq, not_true_eq_false, if_false]
            exact hst
          · refine H.store hb hl a2 (cs' := (setL cs.toList off v.cells.toList).toArray) (k' := ⟨setL b.cells off x.cells, b.ety⟩) (fun k hk => setRow_other w l.blk k _ hk) (setRow_heap w l.blk cs _ b.ety (0, 0) a2) rfl (by simp [length_setL]) ?_
            simp only [length_setL]
            have h1 := VL.setL off a7 hc
            have h2 : (setL cs.toList off v.cells.toList).take b.cells.length = setL (cs.toList.take b.cells.length) off v.cells.toList := by
              rw [setL_eq _ _ _ (by simp only [Array.length_toList]; omega), setL_eq _ _ _ (by simp only [List.length_take, Array.length_toList]; omega)]
              have g1 : off + v.cells.toList.length ≤ b.cells.length := by simp only [Array.length_toList]; omega
              rw [List.take_append, List.take_append, List.take_take]
              have g2 : min b.cells.length off = off := by omega
              have g3 : (cs.toList.take off).length = off := by simp only [List.length_take, Array.length_toList]; omega
              rw [g2, g3, List.take_of_length_le (l := v.cells.toList) (by omega), List.take_take, Nat.min_eq_left (by omega), List.drop_take, List.length_append, g3]
            rw [h2]
            exact h1
          · refine (Below.refl base w).trans ⟨rfl, rfl, rfl, by simp, fun k hk => setRow_other w l.blk k _ (by omega)⟩
    · cases hs
  · cases hs

/-- What a slice holds, in memory. -/
theorem srcV_sound (H : HRep P base φ im h w) {size : Nat} {x : AV} {v : Value} {news : List AV} {m : Nat} {rd : List Nat} {c : Bool} (hs : srcV size h x = some (news, m, rd, c)) (hc : c = true) (hx : V im φ x v) :
    (v = .slice none 0 0 ∧ m = 0 ∧ news = []) ∨ (m = 0 ∧ news = [] ∧ ∃ a cap, v = .slice a 0 cap) ∨
    ∃ b o cap us, v = .slice (some ⟨b, o, none⟩) m cap ∧ VL im φ news us ∧ news.length = m * size ∧ ∀ j u, us[j]? = some u → w.cell? ⟨b, o + j, none⟩ = some u := by
  subst hc
  unfold srcV at hs
  split at hs
  · cases hs
    cases hx
    exact .inl ⟨rfl, rfl, rfl⟩
  · rename_i cells m'
    simp only [Option.some.injEq, Prod.mk.injEq] at hs
    obtain ⟨e1, e2, e3, e4⟩ := hs
    subst e1
    subst e2
    rw [Nat.ble_eq] at e4
    cases hx with
    | snap _ _ _ b o cap cs vs him hvs hv hle =>
      obtain ⟨e1, f1, hheap⟩ := H.imh b cs him
      refine .inr (.inr ⟨b, o, cap, vs.take (m' * size), rfl, (hv.take _).mono (Phi.none_le _) (Im.le_refl _), by simp; omega, fun j u hj => ?_⟩)
      subst hvs
      rw [List.getElem?_take] at hj
      split at hj
      · rw [List.getElem?_take] at hj
        split at hj
        · rw [List.getElem?_drop] at hj
          unfold World.cell?
          simp only [hheap, Option.isSome_none, Bool.false_eq_true, if_false]
          simpa using hj
        · cases hj
      · cases hj
    | snape _ _ a cap => exact .inr (.inl ⟨rfl, by simp, a, cap, rfl⟩)
  · rename_i k o m'
    split at hs
    · rename_i b hb
      simp only [Option.some.injEq, Prod.mk.injEq] at hs
      obtain ⟨e1, e2, e3, e4⟩ := hs
      subst e1
      subst e2
      rw [Nat.ble_eq] at e4
      cases hx with
      | slc0 => exact .inl ⟨rfl, rfl, by simp⟩
      | slc _ _ _ _ cap l hl hle hcap =>
        rcases H.own k b hb with ⟨a1, _⟩ | ⟨l', cs, a1, a2, a3, a4, a5, a6, a7⟩
        · rw [hl] at a1; cases a1
        rw [hl] at a1
        cases a1
        refine .inr (.inr ⟨l.blk, o, cap, ((cs.toList.take b.cells.length).drop o).take (m' * size), rfl, (a7.drop o).take _, by simp; omega, fun j u hj => ?_⟩)
        rw [List.getElem?_take] at hj
        split at hj
        · rw [List.getElem?_drop, List.getElem?_take] at hj
          split at hj
          · unfold World.cell?
            simp only [a2, Option.isSome_none, Bool.false_eq_true, if_false]
            simpa using hj
          · cases hj
        · cases hj
    · cases hs
  · cases hs

theorem grownCap_bounds (w : World) (need old : Nat) (e : TypeId) (h : need ≤ maxLen) : need ≤ grownCap w need old e ∧ grownCap w need old e ≤ maxLen := ⟨grownCap_ge w need old e, grownCap_le_maxLen w need old e h⟩

end
end Go.Eng
/- Engine, part 11: append. Condition: what the evaluator says must hold, holds. -/
namespace Go.Eng
open Go Go.RowKit

section
variable {P : Program} {base : Nat} {φ : Phi} {im : Im} {h : AHeap} {w : World} {lo hi : Nat}

theorem run_append_zero {t ty e : TypeId} {i : TypeInfo} (ht : P.underlying t = some (.slice e)) (hi' : P.info? e = some i) (b : Option Addr) (len cap : Nat) (hle : len ≤ cap) (a : Option Addr) (c : Nat) (w : World) :
    (Builtin.append_ #[t, t] ty #[.slice b len cap, .slice a 0 c]).run P w = .ok (.slice b len cap) w := by
  have hf : (Builtin.firstCells i.size 0 (.slice a 0 c)).run P w = .ok #[] w := by
    cases a with
    | none => simp [Builtin.firstCells]
    | some a => simp [Builtin.firstCells, loadCells, loadCellsFrom]
  cases b with
  | none => simp [Builtin.append_, run_underlying ht, sizeOf, typeInfo, hi', Builtin.lenOf, hle, hf]
  | some b => simp [Builtin.append_, run_underlying ht, sizeOf, typeInfo, hi', Builtin.lenOf, hle, hf, storeCells]

/-- What may be nil, and nothing in it. -/
theorem nothing_did (H : HRep P base φ im h w) {n : Nat} (hn : φ n = none) {el : TypeId} {rd : List Nat} {ok : Bool} :
    Did P base φ im h w lo hi ⟨.slc n 0 0, [(n, some ⟨[], el⟩)], rd, ok⟩ (.slice none 0 0) w φ :=
  ⟨Phi.le_refl _, fun _ h => .inl h, H.nothing hn el, Below.refl _ _, .slc0 _ _ _⟩

/-- A slice that grows where it is. -/
theorem room_did (H : HRep P base φ im h w) {k n : Nat} (hn : φ n = none) (h1 : lo ≤ n) (h2 : n < hi) {b : ABlk} (hb : h k = some b) {l : Loc} (hl : φ k = some l) {len cap m : Nat} (hcap : cap ≤ l.cap) (hroom : len + m ≤ cap)
    {size : Nat} (hsz : esz P b.ety = size) (hlen : b.cells.length = len * size) {cs : Array Value} (hcs : w.heap[l.blk]? = some (.cells cs b.ety (0, 0))) {news : List AV} {us : List Value} (hu : VL im φ news us) (hul : news.length = m * size) {rd : List Nat} {ok : Bool} :
    Did P base φ im h w lo hi ⟨.slc n 0 (len + m), [(k, none), (n, some ⟨b.cells ++ news, b.ety⟩)], rd, ok⟩ (.slice (some ⟨l.blk, 0, none⟩) (len + m) cap)
      (w.setRow l.blk (cs.toList.take (len * size) ++ us ++ cs.toList.drop (len * size + us.length)).toArray) (upd φ n (some l)) := by
  rcases H.own k b hb with ⟨a1, _⟩ | ⟨l', cs', a1, a2, a3, a4, a5, a6, a7⟩
  · rw [hl] at a1; cases a1
  rw [hl] at a1
  cases a1
  rw [hcs] at a2
  cases a2
  have hul' : us.length = m * size := by rw [← hu.length]; exact hul
  have hfit : len * size + m * size ≤ cs.size := by
    rw [← Nat.add_mul]
    rw [hsz] at a6
    exact Nat.le_trans (Nat.mul_le_mul_right _ (by omega)) a6
  have hlist : (cs.toList.take (len * size) ++ us ++ cs.toList.drop (len * size + us.length)).length = cs.size := by
    simp only [List.length_append, List.length_take, List.length_drop, Array.length_toList]; omega
  refine ⟨Phi.le_upd hn _, news_upd h1 h2, ?_, ?_, .slc _ n 0 (len + m) cap l (upd_same _ _ _) hroom (fun _ => hcap)⟩
  · show HRep P base (upd φ n (some l)) im (upd (upd h k none) n (some ⟨b.cells ++ news, b.ety⟩)) _
    refine (H.drop k).put hn (cs := (cs.toList.take (len * size) ++ us ++ cs.toList.drop (len * size + us.length)).toArray) (fun x hx _ => setRow_other w l.blk x _ hx) (setRow_heap w l.blk cs _ b.ety (0, 0) hcs) a3 a4 a5 ?_ ?_ ?_
    · simp only [List.size_toArray, hlist]; exact a6
    · intro i k' l' hi' hl' e
      by_cases hik : i = k
      · subst hik; rw [upd_same] at hi'; cases hi'
      · rw [upd_other _ _ _ hik] at hi'
        exact hik (H.apart i k k' b l' l hi' hb hl' hl e)
    · have e1 : (cs.toList.take (len * size) ++ us ++ cs.toList.drop (len * size + us.length)).take (b.cells ++ news).length = cs.toList.take b.cells.length ++ us := by
        have g : (b.cells ++ news).length = (cs.toList.take (len * size) ++ us).length := by
          simp only [List.length_append, List.length_take, Array.length_toList, hlen, hul, hul']; omega
        rw [g, List.take_left, hlen]
      dsimp only
      rw [e1]
      exact a7.append hu
  · exact (Below.refl base w).trans ⟨rfl, rfl, rfl, by simp, fun x hx => setRow_other w l.blk x _ (by omega)⟩

theorem drop_did {k : Nat} {e : Eff} {r : Value} {w' : World} {φ' : Phi} (D : Did P base φ im (upd h k none) w lo hi e r w' φ') : Did P base φ im h w lo hi ⟨e.val, (k, none) :: e.wr, e.rd, e.ok⟩ r w' φ' :=
  ⟨D.le, D.news, D.hrep, D.below, D.val⟩

theorem appendV_sound (H : HRep P base φ im h w) (hbase : base ≤ w.heap.size) {n : Nat} (hn : φ n = none) (h1 : lo ≤ n) (h2 : n < hi) {t ty : TypeId} {s x : AV} {vs vx : Value} (hs : V im φ s vs) (hx : V im φ x vx) {e : Eff} (ha : appendV P t s x h n = some e) (hok : e.ok = true) :
    ∃ r w' φ', (Builtin.append_ #[t, t] ty #[vs, vx]).run P w = .ok r w' ∧ Did P base φ im h w lo hi e r w' φ' := by
  unfold appendV at ha
  cases hel : sliceElem P t with
  | none => rw [hel] at ha; cases ha
  | some el =>
    rw [hel] at ha
    dsimp only at ha
    split at ha
    · rename_i i z hi' hz
      cases hc : (Nat.beq z.cells.length i.size && Nat.blt 0 i.size) with
      | false => rw [hc] at ha; cases ha
      | true =>
        rw [hc] at ha
        simp only [cond_true] at ha
        simp only [Bool.and_eq_true, Nat.blt_eq] at hc
        have hzl : z.cells.length = i.size := Nat.eq_of_beq_eq_true hc.1
        obtain ⟨i', zv, hit, hzv', hzv⟩ := zeroV_is hz
        rw [hi'] at hit
        cases hit
        have hei := esz_is hi'
        have hu := sliceElem_is hel
        have hzs : zv.cells.size = i.size := by
          have := (hzv (φ := φ) (im := im)).cells.length
          rw [hzl] at this
          simpa using this.symm
        cases hsrc : srcV i.size h x with
        | none => rw [hsrc] at ha; cases ha
        | some p =>
          obtain ⟨news, m, rd, c⟩ := p
          rw [hsrc] at ha
          dsimp only at ha
          -- a new row, from a slice that has no memory
          have fresh : ∀ {h' : AHeap}, HRep P base φ im h' w → c = true → m * i.bytes ≤ 140737488355328 → m ≤ maxLen → ∀ ok : Bool,
              ∃ r w' φ', (Builtin.append_ #[t, t] ty #[.slice none 0 0, vx]).run P w = .ok r w' ∧ Did P base φ im h' w lo hi ⟨.slc n 0 m, [(n, some ⟨news, el⟩)], rd, ok⟩ r w' φ' := by
            intro h' H' hct hb1 hb2 ok
            rcases srcV_sound H hsrc hct hx with ⟨e1, e2, e3⟩ | ⟨e2, e3, a, cap, e1⟩ | ⟨b, o, cap, us, e1, e2, e3, e4⟩
            · subst e1; subst e2; subst e3
              exact ⟨_, _, _, run_append_zero hu hi' none 0 0 (Nat.le_refl _) none 0 w, nothing_did H' hn⟩
            · subst e1; subst e2; subst e3
              exact ⟨_, _, _, run_append_zero hu hi' none 0 0 (Nat.le_refl _) a cap w, nothing_did H' hn⟩
            · subst e1
              by_cases hm : m = 0
              · subst hm
                have : news = [] := List.eq_nil_of_length_eq_zero (by simpa using e3)
                subst this
                exact ⟨_, _, _, run_append_zero hu hi' none 0 0 (Nat.le_refl _) _ cap w, nothing_did H' hn⟩
              · have hul : us.length = m * i.size := by rw [← e2.length]; exact e3
                have hr := run_append_nil (P := P) w t ty el i zv hu hi' hzv' ⟨b, o, none⟩ m cap us hul (fun j v hj => by rw [Addr.add_lit]; exact e4 j v hj) (by omega) (by unfold maxLen at hb2; omega) (by omega)
                obtain ⟨g1, g2⟩ := grownCap_bounds w m 0 el hb2
                refine ⟨_, _, upd φ n (some ⟨w.heap.size, grownCap w m 0 el⟩), hr, newRow_did H' hbase hn h1 h2 ?_ g2 ?_ g1 (.inr rfl)⟩
                · have : (us.toArray ++ Builtin.zeroCells zv.cells (grownCap w m 0 el - m)).toList.take news.length = us := by
                    rw [Array.toList_append, e2.length]
                    simp
                  rw [this]
                  exact e2
                · rw [hei, Array.size_append, List.size_toArray, size_zeroCells, hul, hzs, ← Nat.add_mul]
                  exact Nat.mul_le_mul_right _ (by omega)
          split at ha
          · cases ha
            cases hs
            simp only [Bool.and_eq_true, decide_eq_true_eq] at hok
            exact fresh H hok.1 hok.2.1 hok.2.2 _
          · rename_i k o len
            split at ha
            · rename_i b hb
              cases hoe : (Nat.beq o 0 && decide (b.ety = el)) with
              | false => rw [hoe] at ha; cases ha
              | true =>
                rw [hoe] at ha
                cases ha
                simp only [Bool.and_eq_true, decide_eq_true_eq] at hoe
                have ho : o = 0 := Nat.eq_of_beq_eq_true hoe.1
                have hety := hoe.2
                subst ho
                simp only [Bool.and_eq_true, decide_eq_true_eq] at hok
                obtain ⟨⟨hct, hone⟩, hlen, hb1, hb2⟩ := hok
                cases hs with
                | slc0 =>
                  have hnil : b.cells = [] := List.eq_nil_of_length_eq_zero (by simpa using hlen)
                  obtain ⟨r, w', φ', g1, g2⟩ := fresh (H.drop k) hct (by simpa using hb1) (by omega) true
                  refine ⟨r, w', φ', g1, ?_⟩
                  have g3 := drop_did g2
                  refine ⟨g3.le, g3.news, ?_, g3.below, ?_⟩
                  · simpa [hnil] using g3.hrep
                  · simpa using g3.val
                | slc _ _ _ _ cap l hl hle hcap =>
                  have hcap' := hcap rfl
                  rcases H.own k b hb with ⟨a1, _⟩ | ⟨l', cs, a1, a2, a3, a4, a5, a6, a7⟩
                  · rw [hl] at a1; cases a1
                  rw [hl] at a1
                  cases a1
                  have zero : ∀ a c', vx = .slice a 0 c' → m = 0 → news = [] →
                      ∃ r w' φ', (Builtin.append_ #[t, t] ty #[.slice (some ⟨l.blk, 0, none⟩) len cap, vx]).run P w = .ok r w' ∧ Did P base φ im h w lo hi
                        ⟨.slc n 0 (len + m), [(k, none), (n, some ⟨b.cells ++ news, el⟩)], k :: rd, c && news.all AV.one && decide (b.cells.length = len * i.size ∧ (len + m) * i.bytes ≤ 140737488355328 ∧ len + m ≤ maxLen)⟩ r w' φ' := by
                    intro a c' e1 e2 e3
                    subst e1; subst e2; subst e3
                    have D := room_did (lo := lo) (hi := hi) H hn h1 h2 hb hl (m := 0) hcap' (by omega) (size := i.size) (by rw [hety]; exact hei) hlen a2 (news := []) (us := []) (.nil _) (by simp) (rd := k :: rd) (ok := c && [].all AV.one && decide (b.cells.length = len * i.size ∧ (len + 0) * i.bytes ≤ 140737488355328 ∧ len + 0 ≤ maxLen))
                    have hself : w.setRow l.blk (cs.toList.take (len * i.size) ++ [] ++ cs.toList.drop (len * i.size + ([] : List Value).length)).toArray = w := by
                      simp only [List.append_nil, List.length_nil, Nat.add_zero, List.take_append_drop, Array.toArray_toList]
                      exact setRow_self w l.blk cs b.ety (0, 0) a2
                    rw [hself, hety] at D
                    exact ⟨_, _, _, run_append_zero hu hi' _ len cap hle a c' w, D⟩
                  rcases srcV_sound H hsrc hct hx with ⟨e1, e2, e3⟩ | ⟨e2, e3, a, cp, e1⟩ | ⟨bb, oo, cp, us, e1, e2, e3, e4⟩
                  · exact zero _ _ e1 e2 e3
                  · exact zero _ _ e1 e2 e3
                  · subst e1
                    have hul : us.length = m * i.size := by rw [← e2.length]; exact e3
                    by_cases hroom : len + m ≤ cap
                    · have hfit : len * i.size + us.length ≤ cs.size := by
                        rw [hul, ← Nat.add_mul]
                        rw [hety, hei] at a6
                        exact Nat.le_trans (Nat.mul_le_mul_right _ (by omega)) a6
                      rw [hety] at a2
                      have hr := run_append_room (P := P) w t ty el i hu hi' l.blk len cap cs a2 ⟨bb, oo, none⟩ m cp us hul (fun j v hj => by rw [Addr.add_lit]; exact e4 j v hj) (ones_of e2 hone) hroom hfit
                      rw [← hety] at a2
                      have D := room_did (lo := lo) (hi := hi) H hn h1 h2 hb hl (m := m) hcap' hroom (size := i.size) (by rw [hety]; exact hei) hlen a2 e2 e3 (rd := k :: rd) (ok := c && news.all AV.one && decide (b.cells.length = len * i.size ∧ (len + m) * i.bytes ≤ 140737488355328 ∧ len + m ≤ maxLen))
                      rw [hety] at D
                      exact ⟨_, _, _, hr, D⟩
                    · have hr := run_append_grow (P := P) w t ty el i zv hu hi' hzv' ⟨l.blk, 0, none⟩ len cap (cs.toList.take b.cells.length) (by rw [← a7.length]; exact hlen) (fun j v hj => by
                        rw [Addr.add_lit, Nat.zero_add]
                        rw [List.getElem?_take] at hj
                        split at hj
                        · unfold World.cell?
                          simp only [a2, Option.isSome_none, Bool.false_eq_true, if_false]
                          simpa using hj
                        · cases hj) ⟨bb, oo, none⟩ m cp us hul (fun j v hj => by rw [Addr.add_lit]; exact e4 j v hj) (by omega) (by unfold maxLen at hb2; omega) (growslice_fits (by omega) hb1)
                      obtain ⟨g1, g2⟩ := grownCap_bounds w (len + m) cap el hb2
                      refine ⟨_, _, upd φ n (some ⟨w.heap.size, grownCap w (len + m) cap el⟩), hr, ?_⟩
                      have D := newRow_did (lo := lo) (hi := hi) (H.drop k) hbase hn h1 h2 (el := el) (cells := b.cells ++ news) (A := (cs.toList.take b.cells.length).toArray ++ us.toArray ++ Builtin.zeroCells zv.cells (grownCap w (len + m) cap el - (len + m))) (len := len + m)
                        (cap := grownCap w (len + m) cap el) (ok := c && news.all AV.one && decide (b.cells.length = len * i.size ∧ (len + m) * i.bytes ≤ 140737488355328 ∧ len + m ≤ maxLen)) (rd := k :: rd) (w1 := w.drew) ?_ g2 ?_ g1 (.inr rfl)
                      · exact drop_did D
                      · have : ((cs.toList.take b.cells.length).toArray ++ us.toArray ++ Builtin.zeroCells zv.cells (grownCap w (len + m) cap el - (len + m))).toList.take (b.cells ++ news).length = cs.toList.take b.cells.length ++ us := by
                          rw [Array.toList_append, Array.toList_append]
                          have g : (b.cells ++ news).length = ((cs.toList.take b.cells.length).toArray.toList ++ us.toArray.toList).length := by
                            rw [List.length_append, List.length_append, ← a7.length, e2.length]
                          rw [g, List.take_left]
                        rw [this]
                        exact a7.append e2
                      · rw [hei, Array.size_append, Array.size_append, List.size_toArray, List.size_toArray, size_zeroCells, hul, hzs, ← a7.length, hlen, ← Nat.add_mul, ← Nat.add_mul]
                        exact Nat.mul_le_mul_right _ (by omega)
            · cases ha
          · cases ha
    · cases ha

end
end Go.Eng
/- Engine, part 12: contracts of calls; one operation evaluated, and its soundness. Condition: the contracts that the evaluator leans on hold. -/
namespace Go.Eng
open Go Go.RowKit

/-- A call of function f, whatever it is made of. -/
def CallX (P : Program) (f : FuncId) (args : Array Value) (w : World) (R : Value → World → Prop) : Prop :=
  ∃ nx w1, (callFunc f args).run P w = .ok nx w1 ∧
    ((∃ v, nx = .value v ∧ R v w1) ∨ (∃ g as, nx = .enter g as ∧ Calls P g as w1 fun e w' => ∃ v, e = .returned v ∧ R v w'))

def heapL (n : Nat) : List ABlk → AHeap
  | [] => fun _ => none
  | b :: bs => upd (heapL (n + 1) bs) n (some b)

/-- What a call leaves: a value, and memory of its own that it hands over. -/
def Leaves (P : Program) (w : World) (n : Nat) (r : AV) (N : List ABlk) (v : Value) (w' : World) : Prop :=
  ∃ φ' im', Below w.heap.size w w' ∧ (∀ i, φ' i ≠ none → n ≤ i ∧ i < n + 64) ∧ (∀ b cs, im' b = some cs → w.heap.size ≤ b) ∧ HRep P w.heap.size φ' im' (heapL n N) w' ∧ V im' φ' r v

/-- The contract of a function at abstract arguments: it answers r, and hands over blocks N (numbered from n on). -/
def Con (P : Program) (f : FuncId) (xs : List AV) (n : Nat) (r : AV) (N : List ABlk) : Prop :=
  ∀ (im : Im) (w : World) (args : Array Value), (∀ b cs, im b = some cs → ∃ e g, w.heap[b]? = some (.cells cs e g)) → VL im (fun _ => none) xs args.toList → CallX P f args w (Leaves P w n r N)

structure ORes where
  val : AV
  blks : List ABlk
  ok : Bool

/-- The answers of the functions that are known. -/
abbrev Orc := FuncId → List AV → Nat → Option ORes

def OrcOK (P : Program) (orc : Orc) : Prop := ∀ f xs n r, orc f xs n = some r → r.ok = true → Con P f xs n r.val r.blks

/-- ov: what an operation's answer is to be told as, place by place (if it is the same). -/
structure Ctx where
  P : Program
  orc : Orc
  deep : FuncId → Bool
  ov : Nat → Option AV
  same : AV → AV → Bool
  same_is : ∀ x y, same x y = true → x = y

def ctx0 (P : Program) (orc : Orc) (deep : FuncId → Bool) : Ctx := ⟨P, orc, deep, fun _ => none, fun _ _ => false, fun _ _ h => by cases h⟩

/-! ### Arguments as the callee sees them -/
def AV.noOwn : AV → Bool
  | .ptr _ _ | .slc _ _ _ | .agg _ | .tup _ => false
  | .fn _ [] [] => true
  | .fn _ _ _ => false
  | _ => true

structure CV where
  val : AV
  rd : List Nat
  ok : Bool

mutual
def conv (h : AHeap) (deep : Bool) : Nat → AV → Option CV
  | 0, _ => none
  | d + 1, .slc i off len => match h i with
    | some b => bif deep then (match convL h deep d b.cells with
        | some (cs, rd, ok) => some ⟨.snap (cs.drop off) len, i :: rd, ok⟩
        | none => none) else some ⟨.snap (b.cells.drop off) len, [i], b.cells.all AV.noOwn⟩
    | none => none
  | d + 1, .agg cs => match convL h deep d cs with
    | some (cs, rd, ok) => some ⟨.agg cs, rd, ok⟩
    | none => none
  | d + 1, .fn f a c => match convL h deep d a, convL h deep d c with
    | some (a, r1, o1), some (c, r2, o2) => some ⟨.fn f a c, r1 ++ r2, o1 && o2⟩
    | _, _ => none
  | d + 1, .ptr i off => match h i with
    | some b => bif deep then (match convL h deep d b.cells with
        | some (cs, rd, ok) => some ⟨.sptr cs off, i :: rd, ok⟩
        | none => none) else some ⟨.sptr b.cells off, [i], b.cells.all AV.noOwn⟩
    | none => none
  | _ + 1, .tup _ => none
  | _ + 1, x => some ⟨x, [], true⟩
def convL (h : AHeap) (deep : Bool) : Nat → List AV → Option (List AV × List Nat × Bool)
  | 0, _ => none
  | _ + 1, [] => some ([], [], true)
  | d + 1, x :: xs => match conv h deep d x, convL h deep d xs with
    | some c, some (cs, rd, ok) => some (c.val :: cs, c.rd ++ rd, c.ok && ok)
    | _, _ => none
end

/-- All that memory holds. -/
def imOf (w : World) : Im := fun b => match w.heap[b]? with | some (.cells cs _ _) => some cs | _ => none

theorem imOf_is {w : World} {b : Nat} {cs : Array Value} (h : imOf w b = some cs) : ∃ e g, w.heap[b]? = some (.cells cs e g) := by
  unfold imOf at h
  split at h
  · rename_i c e g hh; cases h; exact ⟨e, g, hh⟩
  · cases h

theorem imOf_of {w : World} {b : Nat} {cs : Array Value} {e : TypeId} {g : Nat × Nat} (h : w.heap[b]? = some (.cells cs e g)) : imOf w b = some cs := by
  unfold imOf
  rw [h]

section
variable {P : Program} {base : Nat} {φ : Phi} {im : Im} {h : AHeap} {w : World} {lo hi : Nat}

theorem HRep.im_le (H : HRep P base φ im h w) : Im.le im (imOf w) := fun b cs e => by
  obtain ⟨t, g, hh⟩ := H.imh b cs e
  exact imOf_of hh

theorem noOwn_V {x : AV} {v : Value} (hx : V im φ x v) (hn : x.noOwn = true) : V im (fun _ => none) x v := by
  cases hx <;> first | (simp [AV.noOwn] at hn; done) | skip
  case fn f a c a' c' ha hc =>
    cases a with
    | cons _ _ => simp [AV.noOwn] at hn
    | nil => cases c with
      | cons _ _ => simp [AV.noOwn] at hn
      | nil =>
        have e1 : a'.toList = [] := List.eq_nil_of_length_eq_zero (by rw [← ha.length]; rfl)
        have e2 : c'.toList = [] := List.eq_nil_of_length_eq_zero (by rw [← hc.length]; rfl)
        exact .fn _ f [] [] a' c' (by rw [e1]; exact .nil _) (by rw [e2]; exact .nil _)
  all_goals constructor <;> assumption

theorem noOwns_V : ∀ {xs : List AV} {vs : List Value}, VL im φ xs vs → xs.all AV.noOwn = true → VL im (fun _ => none) xs vs
  | _, _, .nil _, _ => .nil _
  | _, _, .cons _ x v xs vs h hs, hn => by
    simp only [List.all_cons, Bool.and_eq_true] at hn
    exact .cons _ _ _ _ _ (noOwn_V h hn.1) (noOwns_V hs hn.2)

theorem own_snap (H : HRep P base φ im h w) {i off len : Nat} {b : ABlk} (hb : h i = some b) {cs : List AV} {v : Value} (hv : V im φ (.slc i off len) v)
    (hcs : cs.length = b.cells.length) (hc : ∀ vs, VL im φ b.cells vs → VL (imOf w) (fun _ => none) cs vs) : V (imOf w) (fun _ => none) (.snap (cs.drop off) len) v := by
  cases hv with
  | slc0 => exact .snape _ _ _ _
  | slc _ _ _ _ cap l hl hle hcap =>
    rcases H.own i b hb with ⟨a1, _⟩ | ⟨l', cs', a1, a2, a3, a4, a5, a6, a7⟩
    · rw [hl] at a1; cases a1
    rw [hl] at a1
    cases a1
    refine .snap _ _ _ l.blk off cap cs' ((cs'.toList.take b.cells.length).drop off) (imOf_of a2) ?_ ((hc _ a7).drop off) hle
    rw [List.length_drop, hcs, List.drop_take]

theorem own_sptr (H : HRep P base φ im h w) {i off : Nat} {b : ABlk} (hb : h i = some b) {cs : List AV} {v : Value} (hv : V im φ (.ptr i off) v)
    (hcs : cs.length = b.cells.length) (hc : ∀ vs, VL im φ b.cells vs → VL (imOf w) (fun _ => none) cs vs) : V (imOf w) (fun _ => none) (.sptr cs off) v := by
  cases hv with
  | ptr _ _ _ l hl =>
    rcases H.own i b hb with ⟨a1, _⟩ | ⟨l', cs', a1, a2, a3, a4, a5, a6, a7⟩
    · rw [hl] at a1; cases a1
    rw [hl] at a1
    cases a1
    have := V.sptr (im := imOf w) (fun _ => none) cs off l.blk 0 cs' (cs'.toList.take b.cells.length) (imOf_of a2) (by rw [List.drop_zero, hcs]) (hc _ a7)
    rwa [Nat.zero_add] at this

end
end Go.Eng
/- Engine, part 13: one operation evaluated, and its soundness. Condition: the contracts that the evaluator leans on hold. -/
namespace Go.Eng
open Go Go.RowKit

def opd (env : AEnv) : Operand → Option AV
  | .tmp t => env t
  | .const v => ofConst v
  | .func f => some (.fn f [] [])
  | .global _ => none

def opds (env : AEnv) : List Operand → Option (List AV)
  | [] => some []
  | x :: xs => match opd env x, opds env xs with
    | some v, some vs => some (v :: vs)
    | _, _ => none

def optOpd (env : AEnv) : Option Operand → Option (Option AV)
  | none => some none
  | some x => match opd env x with
    | some v => some (some v)
    | none => none

def partsV (env : AEnv) : List (Nat × Operand) → Option (List (Nat × AV))
  | [] => some []
  | (i, x) :: xs => match opd env x, partsV env xs with
    | some v, some vs => some ((i, v) :: vs)
    | _, _ => none

def wrs (n : Nat) : List ABlk → List (Nat × Option ABlk)
  | [] => []
  | b :: bs => (n, some b) :: wrs (n + 1) bs

def callV (C : Ctx) (h : AHeap) (n : Nat) (f : AV) (args : List AV) : Option Eff :=
  match f with
  | .fn g first cap => match convL h (C.deep g) 64 (first ++ args ++ cap) with
    | some (xs, rd, ok) => match C.orc g xs n with
      | some r => bif Nat.ble r.blks.length 64 then some ⟨r.val, wrs n r.blks, rd, ok && r.ok⟩ else none
      | none => none
    | none => none
  | _ => none

def lenV (P : Program) (t : TypeId) (x : AV) : Option Eff :=
  match P.underlying t, x with
  | some (.slice _), .slc _ _ len => pur (.int .i64 len)
  | some (.slice _), .snap _ len => pur (.int .i64 len)
  | some (.slice _), .nils => pur (.int .i64 0)
  | some .string, .str s => pur (.int .i64 s.size)
  | _, _ => none

def evOp (C : Ctx) (env : AEnv) (h : AHeap) (n : Nat) (o : Oper) : Option Eff :=
  match o.op with
  | .move x => (opd env x).bind pur
  | .assign x => (opd env x).bind pur
  | .pick c a b => match opd env c with
    | some (.bool d) => (bif d then opd env a else opd env b).bind pur
    | _ => none
  | .alloc t => allocV C.P t n
  | .box t x => match opd env x with
    | some v => boxV C.P t v n
    | none => none
  | .build t parts => match partsV env parts.toList with
    | some ps => buildV C.P t ps
    | none => none
  | .buildSlice t len parts => match partsV env parts.toList with
    | some ps => buildSliceV C.P t len ps n
    | none => none
  | .load t a => match opd env a with
    | some v => loadOp C.P t v h
    | none => none
  | .store t a x => match opd env a, opd env x with
    | some va, some vx => storeOp C.P t va vx h
    | _, _ => none
  | .binOp op t x y _ => match opd env x, opd env y with
    | some vx, some vy => binV C.P op t vx vy
    | _, _ => none
  | .unOp op _ x => match opd env x with
    | some vx => unV op vx
    | none => none
  | .convert s d x => match opd env x with
    | some vx => convV C.P s d vx
    | none => none
  | .makeFunc (.func f) first cap => match opds env first.toList, opds env cap.toList with
    | some a, some c => pur (.fn f a c)
    | _, _ => none
  | .makeSlice t l c => match opd env l, opd env c with
    | some vl, some vc => makeV C.P t vl vc n
    | _, _ => none
  | .slice t x lo hi mx => match opd env x, optOpd env lo, optOpd env hi, optOpd env mx with
    | some vx, some l, some hh, some m => sliceV C.P t vx l hh m
    | _, _, _, _ => none
  | .fieldAddr s x f => match opd env x with
    | some vx => fieldAddrV C.P s vx f
    | none => none
  | .field s x f => match opd env x with
    | some vx => fieldV C.P s vx f
    | none => none
  | .indexAddr t x i => match opd env x, opd env i with
    | some vx, some vi => indexAddrV C.P t vx vi
    | _, _ => none
  | .index t x i => match opd env x, opd env i with
    | some vx, some vi => indexV C.P t vx vi
    | _, _ => none
  | .extract t ix => match opd env t with
    | some (.tup vs) => (vs[ix]?).bind pur
    | _ => none
  | .call c => match c.callee with
    | .value f => match opd env f, opds env c.args.toList with
      | some vf, some vs => callV C h n vf vs
      | _, _ => none
    | .builtin .len => match opds env c.args.toList, c.argTypes.toList with
      | some [x], [t] => lenV C.P t x
      | _, _ => none
    | .builtin .append => match opds env c.args.toList, c.argTypes.toList with
      | some [s, x], [t, t'] => bif Nat.beq t t' then appendV C.P t s x h n else none
      | _, _ => none
    | .builtin .min => match opds env c.args.toList with
      | some [.int k a, .int _ b] => pur (.int k (if b < a then b else a))
      | _ => none
    | .builtin .max => match opds env c.args.toList with
      | some [.int k a, .int _ b] => pur (.int k (if b > a then b else a))
      | _ => none
    | _ => none
  | _ => none

/-- What an operation has done, in a frame where more may have become known of what does not change. -/
structure DidX (P : Program) (base : Nat) (φ : Phi) (im : Im) (h : AHeap) (w : World) (lo hi : Nat) (e : Eff) (r : Value) (w' : World) (φ' : Phi) (im' : Im) : Prop where
  le : Phi.le φ φ'
  iml : Im.le im im'
  news : ∀ i, φ' i ≠ none → φ i ≠ none ∨ (lo ≤ i ∧ i < hi)
  hrep : HRep P base φ' im' (updL h e.wr) w'
  below : Below base w w'
  val : V im' φ' e.val r

theorem Did.x {P : Program} {base : Nat} {φ : Phi} {im : Im} {h : AHeap} {w : World} {lo hi : Nat} {e : Eff} {r : Value} {w' : World} {φ' : Phi} (D : Did P base φ im h w lo hi e r w' φ') : DidX P base φ im h w lo hi e r w' φ' im :=
  ⟨D.le, Im.le_refl _, D.news, D.hrep, D.below, D.val⟩

section
variable {P : Program} {base : Nat} {φ : Phi} {im : Im} {h : AHeap} {w : World} {lo hi : Nat}

theorem conv_sound (H : HRep P base φ im h w) (deep : Bool) : ∀ d, (∀ x c v, conv h deep d x = some c → c.ok = true → V im φ x v → V (imOf w) (fun _ => none) c.val v) ∧
    (∀ xs cs rd ok vs, convL h deep d xs = some (cs, rd, ok) → ok = true → VL im φ xs vs → VL (imOf w) (fun _ => none) cs vs) := by
  have hle := H.im_le
  intro d
  induction d with
  | zero => exact ⟨fun x c v h => by simp [conv] at h, fun xs cs rd ok vs h => by simp [convL] at h⟩
  | succ d ih =>
    constructor
    · intro x c v hc hok hv
      cases x <;> simp only [conv] at hc <;> first | (cases hc; done) | skip
      case slc i off len =>
        cases hb : h i with
        | none => rw [hb] at hc; cases hc
        | some b =>
          rw [hb] at hc
          cases deep with
          | false =>
            cases hc
            exact own_snap H hb hv rfl fun vs hvs => (noOwns_V hvs hok).mono (fun _ _ e => e) hle
          | true =>
            simp only [cond_true] at hc
            cases hcl : convL h true d b.cells with
            | none => rw [hcl] at hc; cases hc
            | some p =>
              obtain ⟨cs, rd, ok⟩ := p
              rw [hcl] at hc
              cases hc
              have hlen : ∀ vs, VL im φ b.cells vs → VL (imOf w) (fun _ => none) cs vs := fun vs hvs => ih.2 _ _ _ _ vs hcl hok hvs
              rcases H.own i b hb with ⟨_, a2⟩ | ⟨l', cs', a1, a2, a3, a4, a5, a6, a7⟩
              · have h0 := hlen [] (by rw [a2]; exact .nil _)
                exact own_snap H hb hv (by have := h0.length; rw [a2]; simpa using this) hlen
              · exact own_snap H hb hv (by rw [(hlen _ a7).length, ← a7.length]) hlen
      case ptr i off =>
        cases hb : h i with
        | none => rw [hb] at hc; cases hc
        | some b =>
          rw [hb] at hc
          cases deep with
          | false =>
            cases hc
            exact own_sptr H hb hv rfl fun vs hvs => (noOwns_V hvs hok).mono (fun _ _ e => e) hle
          | true =>
            simp only [cond_true] at hc
            cases hcl : convL h true d b.cells with
            | none => rw [hcl] at hc; cases hc
            | some p =>
              obtain ⟨cs, rd, ok⟩ := p
              rw [hcl] at hc
              cases hc
              have hlen : ∀ vs, VL im φ b.cells vs → VL (imOf w) (fun _ => none) cs vs := fun vs hvs => ih.2 _ _ _ _ vs hcl hok hvs
              rcases H.own i b hb with ⟨_, a2⟩ | ⟨l', cs', a1, a2, a3, a4, a5, a6, a7⟩
              · have h0 := hlen [] (by rw [a2]; exact .nil _)
                exact own_sptr H hb hv (by have := h0.length; rw [a2]; simpa using this) hlen
              · exact own_sptr H hb hv (by rw [(hlen _ a7).length, ← a7.length]) hlen
      case agg cs =>
        cases hcl : convL h deep d cs with
        | none => rw [hcl] at hc; cases hc
        | some p =>
          obtain ⟨cs', rd, ok⟩ := p
          rw [hcl] at hc
          cases hc
          cases hv with
          | agg _ _ cs2 hv => exact .agg _ _ _ (ih.2 _ _ _ _ _ hcl hok hv)
      case fn f a c =>
        cases h1 : convL h deep d a with
        | none => rw [h1] at hc; cases hc
        | some p =>
          cases h2 : convL h deep d c with
          | none => rw [h1, h2] at hc; cases hc
          | some q =>
            obtain ⟨a', r1, o1⟩ := p
            obtain ⟨c', r2, o2⟩ := q
            rw [h1, h2] at hc
            cases hc
            simp only [Bool.and_eq_true] at hok
            cases hv with
            | fn _ _ _ _ a2 c2 ha hc2 => exact .fn _ _ _ _ _ _ (ih.2 _ _ _ _ _ h1 hok.1 ha) (ih.2 _ _ _ _ _ h2 hok.2 hc2)
      all_goals
        cases hc
        exact (noOwn_V hv rfl).mono (fun _ _ e => e) hle
    · intro xs cs rd ok vs hc hok hv
      cases xs with
      | nil => simp only [convL, Option.some.injEq, Prod.mk.injEq] at hc; obtain ⟨e1, _, _⟩ := hc; subst e1; cases hv; exact .nil _
      | cons x xs =>
        simp only [convL] at hc
        cases h1 : conv h deep d x with
        | none => rw [h1] at hc; cases hc
        | some c =>
          cases h2 : convL h deep d xs with
          | none => rw [h1, h2] at hc; cases hc
          | some p =>
            obtain ⟨cs', rd', ok'⟩ := p
            rw [h1, h2] at hc
            cases hc
            simp only [Bool.and_eq_true] at hok
            cases hv with
            | cons _ _ v _ vs' hv1 hv2 => exact .cons _ _ _ _ _ (ih.1 _ _ _ h1 hok.1 hv1) (ih.2 _ _ _ _ _ h2 hok.2 hv2)

theorem heapL_none (n : Nat) : ∀ (N : List ABlk) (i : Nat), i < n ∨ n + N.length ≤ i → heapL n N i = none
  | [], _, _ => rfl
  | b :: bs, i, hi => by
    simp only [heapL, List.length_cons] at *
    rw [upd_other _ _ _ (by omega)]
    exact heapL_none (n + 1) bs i (by omega)

theorem updL_wrs (h : AHeap) (n : Nat) : ∀ (N : List ABlk) (i : Nat), updL h (wrs n N) i = match heapL n N i with | some b => some b | none => h i := by
  intro N
  induction N generalizing h n with
  | nil => intro i; rfl
  | cons b bs ih =>
    intro i
    simp only [wrs, updL, heapL]
    rw [ih]
    by_cases hi : i = n
    · subst hi
      rw [upd_same, heapL_none (i + 1) bs i (by omega)]
      dsimp only
      rw [upd_same]
    · rw [upd_other _ _ _ hi, upd_other _ _ _ hi]

/-- Behind a call: what was there, and what is handed over. -/
theorem call_did (H : HRep P base φ im h w) (hbase : base ≤ w.heap.size) {n : Nat} (hfresh : ∀ i, n ≤ i → i < n + 64 → φ i = none) (hfreshh : ∀ i, n ≤ i → i < n + 64 → h i = none) {r : AV} {N : List ABlk} (hN : N.length ≤ 64) {v : Value} {w' : World} (hl : Leaves P w n r N v w') (rd : List Nat) (ok : Bool) :
    ∃ φ' im', DidX P base φ im h w n (n + 64) ⟨r, wrs n N, rd, ok⟩ v w' φ' im' := by
  obtain ⟨φ1, im1, hbel, hids, him, hrep, hv⟩ := hl
  let φ' : Phi := fun i => if n ≤ i ∧ i < n + 64 then φ1 i else φ i
  let im' : Im := fun b => if b < w.heap.size then im b else im1 b
  have hφ : Phi.le φ φ' := fun i l e => by
    show (if n ≤ i ∧ i < n + 64 then φ1 i else φ i) = some l
    rw [if_neg]
    · exact e
    · rintro ⟨g1, g2⟩; rw [hfresh i g1 g2] at e; cases e
  have hφ1 : Phi.le φ1 φ' := fun i l e => by
    show (if n ≤ i ∧ i < n + 64 then φ1 i else φ i) = some l
    rw [if_pos (hids i (by rw [e]; simp))]
    exact e
  have him0 : Im.le im im' := fun b cs e => by
    show (if b < w.heap.size then im b else im1 b) = some cs
    rw [if_pos (H.lt_im e)]
    exact e
  have him1 : Im.le im1 im' := fun b cs e => by
    show (if b < w.heap.size then im b else im1 b) = some cs
    rw [if_neg (by have := him b cs e; omega)]
    exact e
  have hold : ∀ b o, w.heap[b]? = some o → w'.heap[b]? = some o := fun b o e => by rw [hbel.block b (Array.getElem?_eq_some_iff.1 e).1]; exact e
  have hlt : ∀ b o, w.heap[b]? = some o → b < w.heap.size := fun b o e => (Array.getElem?_eq_some_iff.1 e).1
  -- which blocks there are
  have cases_h : ∀ i k, updL h (wrs n N) i = some k → (heapL n N i = some k ∧ n ≤ i ∧ i < n + 64) ∨ (h i = some k ∧ heapL n N i = none) := by
    intro i k e
    rw [updL_wrs] at e
    cases hh : heapL n N i with
    | none => rw [hh] at e; exact .inr ⟨e, rfl⟩
    | some b =>
      rw [hh] at e
      refine .inl ⟨e, ?_⟩
      rcases Nat.lt_or_ge i n with g | g
      · rw [heapL_none n N i (.inl g)] at hh; cases hh
      · rcases Nat.lt_or_ge i (n + N.length) with g' | g'
        · omega
        · rw [heapL_none n N i (.inr g')] at hh; cases hh
  refine ⟨φ', im', hφ, him0, ?_, ?_, hbel.mono hbase, hv.mono hφ1 him1⟩
  · intro i hi
    by_cases hin : n ≤ i ∧ i < n + 64
    · exact .inr hin
    · left
      have : φ' i = φ i := by show (if n ≤ i ∧ i < n + 64 then φ1 i else φ i) = φ i; rw [if_neg hin]
      rw [← this]; exact hi
  · refine ⟨fun b cs e => ?_, fun i k e => ?_, fun i j k1 k2 l1 l2 e1 e2 e3 e4 e5 => ?_⟩
    · have e' : (if b < w.heap.size then im b else im1 b) = some cs := e
      split at e'
      · obtain ⟨t, g, hh⟩ := H.imh b cs e'; exact ⟨t, g, hold _ _ hh⟩
      · exact hrep.imh b cs e'
    · rcases cases_h i k e with ⟨hh, g1, g2⟩ | ⟨hh, hn⟩
      · rcases hrep.own i k hh with ⟨b1, b2⟩ | ⟨l, cs, b1, b2, b3, b4, b5, b6, b7⟩
        · refine .inl ⟨?_, b2⟩
          show (if n ≤ i ∧ i < n + 64 then φ1 i else φ i) = none
          rw [if_pos ⟨g1, g2⟩]; exact b1
        · refine .inr ⟨l, cs, hφ1 _ _ b1, b2, by omega, ?_, b5, b6, b7.mono hφ1 him1⟩
          show (if l.blk < w.heap.size then im l.blk else im1 l.blk) = none
          rw [if_neg (by omega)]; exact b4
      · rcases H.own i k hh with ⟨b1, b2⟩ | ⟨l, cs, b1, b2, b3, b4, b5, b6, b7⟩
        · refine .inl ⟨?_, b2⟩
          show (if n ≤ i ∧ i < n + 64 then φ1 i else φ i) = none
          rw [if_neg (by rintro ⟨g1, g2⟩; rw [hfreshh i g1 g2] at hh; cases hh)]; exact b1
        · refine .inr ⟨l, cs, hφ _ _ b1, hold _ _ b2, b3, ?_, b5, b6, b7.mono hφ him0⟩
          show (if l.blk < w.heap.size then im l.blk else im1 l.blk) = none
          rw [if_pos (hlt _ _ b2)]; exact b4
    · have new : ∀ i l, (n ≤ i ∧ i < n + 64) → φ' i = some l → φ1 i = some l := fun i l g e => by
        have : (if n ≤ i ∧ i < n + 64 then φ1 i else φ i) = some l := e
        rwa [if_pos g] at this
      have old : ∀ i k l, h i = some k → φ' i = some l → φ i = some l := fun i k l hh e => by
        have : (if n ≤ i ∧ i < n + 64 then φ1 i else φ i) = some l := e
        rwa [if_neg (by rintro ⟨g1, g2⟩; rw [hfreshh i g1 g2] at hh; cases hh)] at this
      have blkN : ∀ i k l, heapL n N i = some k → φ1 i = some l → w.heap.size ≤ l.blk := fun i k l hh e => by
        rcases hrep.own i k hh with ⟨b1, _⟩ | ⟨l', cs, b1, b2, b3, _⟩
        · rw [b1] at e; cases e
        · rw [b1] at e; cases e; exact b3
      have blkO : ∀ i k l, h i = some k → φ i = some l → l.blk < w.heap.size := fun i k l hh e => by
        rcases H.own i k hh with ⟨b1, _⟩ | ⟨l', cs, b1, b2, b3, _⟩
        · rw [b1] at e; cases e
        · rw [b1] at e; cases e; exact hlt _ _ b2
      rcases cases_h i k1 e1 with ⟨h1, g1⟩ | ⟨h1, _⟩
      · rcases cases_h j k2 e2 with ⟨h2, g2⟩ | ⟨h2, _⟩
        · exact hrep.apart i j k1 k2 l1 l2 h1 h2 (new i l1 g1 e3) (new j l2 g2 e4) e5
        · have b1 := blkN i k1 l1 h1 (new i l1 g1 e3)
          have b2 := blkO j k2 l2 h2 (old j k2 l2 h2 e4)
          omega
      · rcases cases_h j k2 e2 with ⟨h2, g2⟩ | ⟨h2, _⟩
        · have b1 := blkO i k1 l1 h1 (old i k1 l1 h1 e3)
          have b2 := blkN j k2 l2 h2 (new j l2 g2 e4)
          omega
        · exact H.apart i j k1 k2 l1 l2 h1 h2 (old i k1 l1 h1 e3) (old j k2 l2 h2 e4) e5

/-! ### Operands -/
theorem opd_V {env : AEnv} {a : Act} (hρ : ∀ t x, env t = some x → V im φ x (a.tmps.getD t undef)) {o : Operand} {x : AV} (h : opd env o = some x) : V im φ x (a.eval o) := by
  cases o with
  | tmp t => exact hρ t x h
  | const v => exact ofConst_V h
  | global g => cases h
  | func f => cases h; exact .fn _ _ _ _ _ _ (.nil _) (.nil _)

theorem opds_V {env : AEnv} {a : Act} (hρ : ∀ t x, env t = some x → V im φ x (a.tmps.getD t undef)) : ∀ {os : List Operand} {xs : List AV}, opds env os = some xs → VL im φ xs (os.map a.eval)
  | [], xs, h => by cases h; exact .nil _
  | o :: os, xs, h => by
    simp only [opds] at h
    split at h
    · rename_i v vs h1 h2
      cases h
      exact .cons _ _ _ _ _ (opd_V hρ h1) (opds_V hρ h2)
    · cases h

theorem optOpd_V {env : AEnv} {a : Act} (hρ : ∀ t x, env t = some x → V im φ x (a.tmps.getD t undef)) {o : Option Operand} {x : Option AV} (h : optOpd env o = some x) : VO φ im x (o.map a.eval) := by
  cases o with
  | none => cases h; exact .none
  | some o =>
    simp only [optOpd] at h
    split at h
    · rename_i v h1; cases h; exact .some _ _ (opd_V hρ h1)
    · cases h

theorem partsV_V {env : AEnv} {a : Act} (hρ : ∀ t x, env t = some x → V im φ x (a.tmps.getD t undef)) : ∀ {os : List (Nat × Operand)} {xs : List (Nat × AV)}, partsV env os = some xs → VP φ im xs (os.map fun (i, x) => (i, a.eval x))
  | [], xs, h => by cases h; exact .nil
  | (i, o) :: os, xs, h => by
    simp only [partsV] at h
    split at h
    · rename_i v vs h1 h2
      cases h
      exact .cons _ _ _ _ _ (opd_V hρ h1) (partsV_V hρ h2)
    · cases h

end
end Go.Eng
/- Engine, part 14: soundness of one operation. Condition: the contracts that the evaluator leans on hold. -/
namespace Go.Eng
open Go Go.RowKit

section
variable {C : Ctx} {base : Nat} {φ : Phi} {im : Im} {h : AHeap} {w : World} {n : Nat}

theorem lenV_sound {P : Program} {t : TypeId} {x : AV} {v : Value} {e : Eff} {ty : TypeId} (hl : lenV P t x = some e) (hx : V im φ x v) : Plain P φ im w (Builtin.len_ #[t] ty #[v]) e.val ∧ e.wr = [] := by
  unfold lenV at hl
  split at hl
  · rename_i el i off len hu
    cases hl
    cases hx with
    | slc _ _ _ _ cap l _ _ _ => exact ⟨Plain.of (v := .int .i64 len) (by simp [Builtin.len_, run_underlying hu, goInt]) (.int _ _ _), rfl⟩
    | slc0 => exact ⟨Plain.of (v := .int .i64 0) (by simp [Builtin.len_, run_underlying hu, goInt]) (.int _ _ _), rfl⟩
  · rename_i el cells len hu
    cases hl
    cases hx with
    | snap _ _ _ b o cap cs vs _ _ _ _ => exact ⟨Plain.of (v := .int .i64 len) (by simp [Builtin.len_, run_underlying hu, goInt]) (.int _ _ _), rfl⟩
    | snape _ _ a cap => exact ⟨Plain.of (v := .int .i64 0) (by simp [Builtin.len_, run_underlying hu, goInt]) (.int _ _ _), rfl⟩
  · rename_i el hu
    cases hl
    cases hx
    exact ⟨Plain.of (v := .int .i64 0) (by simp [Builtin.len_, run_underlying hu, goInt]) (.int _ _ _), rfl⟩
  · rename_i s hu
    cases hl
    cases hx
    exact ⟨Plain.of (v := .int .i64 s.size) (by simp [Builtin.len_, run_underlying hu, goInt]) (.int _ _ _), rfl⟩
  · cases hl

theorem arr2 {α : Type} {A : Array α} {x y : α} (h : A.toList = [x, y]) : A = #[x, y] := by
  apply Array.ext'; simpa using h
theorem arr1 {α : Type} {A : Array α} {x : α} (h : A.toList = [x]) : A = #[x] := by
  apply Array.ext'; simpa using h

theorem evOp_sound (hO : OrcOK C.P C.orc) {env : AEnv} {a : Act} {o : Oper} {e : Eff} (H : HRep C.P base φ im h w) (hbase : base ≤ w.heap.size)
    (hρ : ∀ t x, env t = some x → V im φ x (a.tmps.getD t undef)) (hfresh : ∀ i, n ≤ i → i < n + 64 → φ i = none) (hfreshh : ∀ i, n ≤ i → i < n + 64 → h i = none)
    (hev : evOp C env h n o = some e) (hok : e.ok = true) {K : Act → World → Prop} {Q : Exit → Act → World → Prop}
    (hK : ∀ r w' φ' im', DidX C.P base φ im h w n (n + 64) e r w' φ' im' → K (a.put o.dst r) w') : o.wp C.P a w K Q := by
  have hn : φ n = none := hfresh n (by omega) (by omega)
  have plain : ∀ {s : Sem Value}, execOp a.eval o = (do pure (.value (← s))) → Plain C.P φ im w s e.val ∧ e.wr = [] → o.wp C.P a w K Q := by
    intro s hs ⟨hp, hw⟩
    obtain ⟨r, w', h1, h2⟩ := hp.did (lo := n) (hi := n + 64) H hw
    unfold Oper.wp
    rw [hs, Sem.run_bind, h1]
    exact hK r w' φ im h2.x
  have pure' : ∀ {v : Value}, execOp a.eval o = pure (.value v) → V im φ e.val v → e.wr = [] → o.wp C.P a w K Q := by
    intro v hs hv hw
    obtain ⟨r, w', h1, h2⟩ := (Plain.pure (P := C.P) (w := w) hv).did (lo := n) (hi := n + 64) H hw
    cases h1
    unfold Oper.wp
    rw [hs]
    exact hK v w φ im h2.x
  have mem : ∀ {s : Sem Value}, execOp a.eval o = (do pure (.value (← s))) → (∃ r w' φ', s.run C.P w = .ok r w' ∧ Did C.P base φ im h w n (n + 64) e r w' φ') → o.wp C.P a w K Q := by
    intro s hs ⟨r, w', φ', h1, h2⟩
    unfold Oper.wp
    rw [hs, Sem.run_bind, h1]
    exact hK r w' φ' im h2.x
  have bp : ∀ {x : Option AV} {v : Value}, x.bind pur = some e → (∀ y, x = some y → V im φ y v) → V im φ e.val v ∧ e.wr = [] := by
    intro x v hx hv
    cases x with
    | none => cases hx
    | some y => cases hx; exact ⟨hv y rfl, rfl⟩
  unfold evOp at hev
  cases hop : o.op <;> rw [hop] at hev <;> first | (cases hev; done) | (dsimp only at hev) | skip
  case move x =>
    obtain ⟨h1, h2⟩ := bp hev fun y hy => opd_V hρ hy
    exact pure' (by unfold execOp; rw [hop]) h1 h2
  case assign x =>
    obtain ⟨h1, h2⟩ := bp hev fun y hy => opd_V hρ hy
    exact pure' (by unfold execOp; rw [hop]) h1 h2
  case pick c x y =>
    split at hev
    · rename_i d hd
      have hc := opd_V hρ hd
      generalize hcv : a.eval c = cv at hc
      cases hc
      cases d with
      | true =>
        obtain ⟨h1, h2⟩ := bp hev fun y hy => opd_V hρ hy
        refine plain (s := pure (a.eval x)) (by unfold execOp; rw [hop]; simp [hcv, asBool]) ⟨Plain.pure h1, h2⟩
      | false =>
        obtain ⟨h1, h2⟩ := bp hev fun y hy => opd_V hρ hy
        refine plain (s := pure (a.eval y)) (by unfold execOp; rw [hop]; simp [hcv, asBool]) ⟨Plain.pure h1, h2⟩
    · cases hev
  case alloc t => exact mem (by unfold execOp; rw [hop]) (allocV_sound H hbase hn (by omega) (by omega) hev)
  case box t x =>
    split at hev
    · rename_i v hv
      exact mem (by unfold execOp; rw [hop]) (boxV_sound H hbase hn (by omega) (by omega) (opd_V hρ hv) hev)
    · cases hev
  case build t ps =>
    split at hev
    · rename_i vs hv
      have hp := partsV_V hρ hv
      exact plain (by unfold execOp; rw [hop]) (buildV_sound hev (qs := ps.map fun (i, x) => (i, a.eval x)) (by simpa using hp))
    · cases hev
  case buildSlice t len ps =>
    split at hev
    · rename_i vs hv
      have hp := partsV_V hρ hv
      exact mem (by unfold execOp; rw [hop]) (buildSliceV_sound H hbase hn (by omega) (by omega) (qs := ps.map fun (i, x) => (i, a.eval x)) (by simpa using hp) hev)
    · cases hev
  case load t x =>
    split at hev
    · rename_i v hv
      exact plain (by unfold execOp; rw [hop]) (loadOp_sound H hev hok (opd_V hρ hv))
    · cases hev
  case store t x y =>
    split at hev
    · rename_i va vx hv1 hv2
      obtain ⟨w', h1, h2⟩ := storeOp_sound (lo := n) (hi := n + 64) H hev hok (opd_V hρ hv1) (opd_V hρ hv2)
      unfold Oper.wp
      have : execOp a.eval o = (do Instr.storeAt t (a.eval x) (a.eval y); pure .skip) := by unfold execOp; rw [hop]
      rw [this, Sem.run_bind, h1]
      exact hK undef w' φ im h2.x
    · cases hev
  case binOp op t x y ty =>
    split at hev
    · rename_i vx vy hv1 hv2
      exact plain (by unfold execOp; rw [hop]) (binV_sound hev hok (opd_V hρ hv1) (opd_V hρ hv2) x y)
    · cases hev
  case unOp op t x =>
    split at hev
    · rename_i vx hv
      exact plain (by unfold execOp; rw [hop]) (unV_sound hev (opd_V hρ hv))
    · cases hev
  case convert s d x =>
    split at hev
    · rename_i vx hv
      exact plain (by unfold execOp; rw [hop]) (convV_sound hev hok (opd_V hρ hv))
    · cases hev
  case makeFunc fn first cap =>
    cases fn <;> first | (cases hev; done) | (dsimp only at hev) | skip
    case func f =>
      split at hev
      · rename_i va vc hv1 hv2
        cases hev
        have g1 := opds_V hρ hv1
        have g2 := opds_V hρ hv2
        refine plain (s := pure (.func (.func f) (first.map a.eval) (cap.map a.eval))) (by unfold execOp; rw [hop]; rfl) ⟨Plain.pure (.fn _ _ _ _ _ _ (by simpa using g1) (by simpa using g2)), rfl⟩
      · cases hev
  case makeSlice t l c =>
    split at hev
    · rename_i vl vc hv1 hv2
      exact mem (by unfold execOp; rw [hop]) (makeV_sound H hbase hn (by omega) (by omega) (opd_V hρ hv1) (opd_V hρ hv2) hev hok)
    · cases hev
  case slice t x lo' hi' mx =>
    split at hev
    · rename_i vx l hh m hv1 hv2 hv3 hv4
      exact plain (by unfold execOp; rw [hop]) (sliceV_sound hev hok (opd_V hρ hv1) (optOpd_V hρ hv2) (optOpd_V hρ hv3) (optOpd_V hρ hv4))
    · cases hev
  case fieldAddr s x f =>
    split at hev
    · rename_i vx hv
      exact plain (by unfold execOp; rw [hop]) (fieldAddrV_sound hev (opd_V hρ hv))
    · cases hev
  case field s x f =>
    split at hev
    · rename_i vx hv
      exact plain (by unfold execOp; rw [hop]) (fieldV_sound hev hok (opd_V hρ hv))
    · cases hev
  case indexAddr t x i =>
    split at hev
    · rename_i vx vi hv1 hv2
      exact plain (by unfold execOp; rw [hop]) (indexAddrV_sound hev hok (opd_V hρ hv1) (opd_V hρ hv2))
    · cases hev
  case index t x i =>
    split at hev
    · rename_i vx vi hv1 hv2
      exact plain (by unfold execOp; rw [hop]) (indexV_sound hev hok (opd_V hρ hv1) (opd_V hρ hv2))
    · cases hev
  case extract t ix =>
    split at hev
    · rename_i vs hv
      have ht := opd_V hρ hv
      generalize htv : a.eval t = tv at ht
      cases ht with
      | tup _ _ cs' hvs =>
        cases hx : vs[ix]? with
        | none => rw [hx] at hev; cases hev
        | some x =>
          rw [hx] at hev
          cases hev
          obtain ⟨u, hu1, hu2⟩ := hvs.get ix x hx
          have hu1' : cs'[ix]? = some u := by simpa using hu1
          refine plain (s := Instr.extract (.tuple cs') ix) (by unfold execOp; rw [hop]; simp [htv]) ⟨Plain.of (v := u) (by simp [Instr.extract, hu1']) hu2, rfl⟩
    · cases hev
  case call c =>
    cases hcal : c.callee <;> rw [hcal] at hev <;> first | (cases hev; done) | (dsimp only at hev) | skip
    case value f =>
      split at hev
      · rename_i vf vs hv1 hv2
        unfold callV at hev
        split at hev
        · rename_i g first cap
          split at hev
          · rename_i xs rd ok hcv
            split at hev
            · rename_i r hr
              cases hl : Nat.ble r.blks.length 64 with
              | false => rw [hl] at hev; cases hev
              | true =>
                rw [hl] at hev
                cases hev
                simp only [Bool.and_eq_true] at hok
                have hcon := hO g xs n r hr hok.2
                have hf := opd_V hρ hv1
                have hargs := opds_V hρ hv2
                generalize hfv : a.eval f = fv at hf
                cases hf with
                | fn _ _ _ _ a' c' ha hc =>
                  have hall : VL im φ (first ++ vs ++ cap) (a' ++ c.args.map a.eval ++ c').toList := by
                    simp only [Array.toList_append, Array.toList_map]
                    exact (ha.append hargs).append hc
                  have hcall := hcon (imOf w) w _ (fun b cs hb => imOf_is hb) ((conv_sound H (C.deep g) 64).2 _ _ _ _ _ hcv hok.1 hall)
                  obtain ⟨nx, w1, hrun, hpost⟩ := hcall
                  have hex : execOp a.eval o = callFunc g (a' ++ c.args.map a.eval ++ c') := by
                    unfold execOp
                    rw [hop]
                    simp [resolve, hcal, hfv, Deferred.ofValue, invoke]
                  have hk : ∀ v w', Leaves C.P w n r.val r.blks v w' → K (a.put o.dst v) w' := by
                    intro v w' hlv
                    obtain ⟨φ', im', hd⟩ := call_did H hbase hfresh hfreshh (by rw [Nat.ble_eq] at hl; exact hl) hlv rd (ok && r.ok)
                    exact hK v w' φ' im' hd
                  unfold Oper.wp
                  rw [hex, hrun]
                  rcases hpost with ⟨v, rfl, hv⟩ | ⟨g', as, rfl, hv⟩
                  · exact hk v w1 hv
                  · exact hv.mono fun e' w' ⟨v, he, hv⟩ => by subst he; exact hk v w' hv
            · cases hev
          · cases hev
        · cases hev
      · cases hev
    case builtin b =>
      cases b <;> first | (cases hev; done) | (dsimp only at hev) | skip
      case len =>
        split at hev
        · rename_i x t hv ht
          have hx := opds_V hρ hv
          have ht' := arr1 ht
          generalize hvs : c.args.toList.map a.eval = ws at hx
          cases hx with
          | cons _ _ v _ vs' h1 h2 =>
            cases h2
            have hargs : c.args.map a.eval = #[v] := arr1 (by rw [Array.toList_map]; exact hvs)
            exact plain (s := Builtin.len_ #[t] o.type #[v]) (by unfold execOp; rw [hop]; simp [resolve, hcal, invoke, builtin, hargs, ht']) (lenV_sound hev h1)
        · cases hev
      case append =>
        split at hev
        · rename_i s x t t' hv ht
          cases htt : Nat.beq t t' with
          | false => rw [htt] at hev; cases hev
          | true =>
            rw [htt] at hev
            have e1 : t = t' := Nat.eq_of_beq_eq_true htt
            subst e1
            have hx := opds_V hρ hv
            have ht' := arr2 ht
            generalize hvs : c.args.toList.map a.eval = ws at hx
            cases hx with
            | cons _ _ v _ vs' h1 h2 =>
              cases h2 with
              | cons _ _ u _ us' h3 h4 =>
                cases h4
                have hargs : c.args.map a.eval = #[v, u] := arr2 (by rw [Array.toList_map]; exact hvs)
                exact mem (s := Builtin.append_ #[t, t] o.type #[v, u]) (by unfold execOp; rw [hop]; simp [resolve, hcal, invoke, builtin, hargs, ht']) (appendV_sound H hbase hn (by omega) (by omega) h1 h3 hev hok)
        · cases hev
      case min =>
        split at hev
        · rename_i k x k' y hv
          cases hev
          have hx := opds_V hρ hv
          generalize hvs : c.args.toList.map a.eval = ws at hx
          cases hx with
          | cons _ _ v _ vs' h1 h2 =>
            cases h2 with
            | cons _ _ u _ us' h3 h4 =>
              cases h4
              cases h1
              cases h3
              have hargs : c.args.map a.eval = #[.int k x, .int k' y] := arr2 (by rw [Array.toList_map]; exact hvs)
              exact plain (s := pure (.int k (if y < x then y else x))) (by unfold execOp; rw [hop]; simp [resolve, hcal, invoke, builtin, hargs, Builtin.min_, Builtin.min2]) ⟨Plain.pure (.int _ _ _), rfl⟩
        · cases hev
      case max =>
        split at hev
        · rename_i k x k' y hv
          cases hev
          have hx := opds_V hρ hv
          generalize hvs : c.args.toList.map a.eval = ws at hx
          cases hx with
          | cons _ _ v _ vs' h1 h2 =>
            cases h2 with
            | cons _ _ u _ us' h3 h4 =>
              cases h4
              cases h1
              cases h3
              have hargs : c.args.map a.eval = #[.int k x, .int k' y] := arr2 (by rw [Array.toList_map]; exact hvs)
              exact plain (s := pure (.int k (if y > x then y else x))) (by unfold execOp; rw [hop]; simp [resolve, hcal, invoke, builtin, hargs, Builtin.max_, Builtin.max2]) ⟨Plain.pure (.int _ _ _), rfl⟩
        · cases hev

end
end Go.Eng
/- Engine, part 15: an operation answers alike wherever what it looks at is alike. No condition. -/
namespace Go.Eng
open Go Go.RowKit

section
variable {C : Ctx} {env env' : AEnv} {h h' : AHeap} {n : Nat}

theorem opds_congr : ∀ {xs : List Operand}, (∀ x ∈ xs, opd env' x = opd env x) → opds env' xs = opds env xs
  | [], _ => rfl
  | x :: xs, hx => by
    simp only [opds]
    rw [hx x (by simp), opds_congr fun y hy => hx y (by simp [hy])]

theorem partsV_congr : ∀ {xs : List (Nat × Operand)}, (∀ x ∈ xs.map (·.2), opd env' x = opd env x) → partsV env' xs = partsV env xs
  | [], _ => rfl
  | (i, x) :: xs, hx => by
    simp only [partsV]
    rw [hx x (by simp), partsV_congr fun y hy => hx y (by simp only [List.map_cons, List.mem_cons]; exact .inr hy)]

theorem optOpd_congr {x : Option Operand} (hx : ∀ y ∈ x.toList, opd env' y = opd env y) : optOpd env' x = optOpd env x := by
  cases x with
  | none => rfl
  | some x => simp only [optOpd]; rw [hx x (by simp)]

theorem evOp_env {o : Oper} (hx : ∀ x ∈ o.op.operands.toList, opd env' x = opd env x) : evOp C env' h n o = evOp C env h n o := by
  unfold evOp
  cases hop : o.op <;> rw [hop] at hx <;> simp only [Op.operands] at hx <;> try rfl
  case move x => simp only [hx x (by simp)]
  case assign x => simp only [hx x (by simp)]
  case pick c a b => simp only [hx c (by simp), hx a (by simp), hx b (by simp)]
  case box t x => simp only [hx x (by simp)]
  case build t ps => simp only [partsV_congr (xs := ps.toList) (by simpa using hx)]
  case buildSlice t l ps => simp only [partsV_congr (xs := ps.toList) (by simpa using hx)]
  case load t a => simp only [hx a (by simp)]
  case store t a x => simp only [hx a (by simp), hx x (by simp)]
  case binOp op t x y ty => simp only [hx x (by simp), hx y (by simp)]
  case unOp op t x => simp only [hx x (by simp)]
  case convert s d x => simp only [hx x (by simp)]
  case makeFunc fn first cap =>
    have h1 := opds_congr (env := env) (env' := env') (xs := first.toList) fun x hx' => hx x (by simp at hx' ⊢; exact .inl hx')
    have h2 := opds_congr (env := env) (env' := env') (xs := cap.toList) fun x hx' => hx x (by simp at hx' ⊢; exact .inr hx')
    cases fn <;> first | rfl | simp only [h1, h2]
  case makeSlice t l c => simp only [hx l (by simp), hx c (by simp)]
  case slice t x lo hi mx =>
    have e1 := hx x (by simp)
    have e2 := optOpd_congr (env := env) (env' := env') (x := lo) fun y hy => hx y (by simp at hy ⊢; exact .inr (.inl hy))
    have e3 := optOpd_congr (env := env) (env' := env') (x := hi) fun y hy => hx y (by simp at hy ⊢; exact .inr (.inr (.inl hy)))
    have e4 := optOpd_congr (env := env) (env' := env') (x := mx) fun y hy => hx y (by simp at hy ⊢; exact .inr (.inr (.inr hy)))
    simp only [e1, e2, e3, e4]
  case fieldAddr s x f => simp only [hx x (by simp)]
  case field s x f => simp only [hx x (by simp)]
  case indexAddr t x i => simp only [hx x (by simp), hx i (by simp)]
  case index t x i => simp only [hx x (by simp), hx i (by simp)]
  case extract t ix => simp only [hx t (by simp)]
  case call c =>
    have h1 := opds_congr (env := env) (env' := env') (xs := c.args.toList) fun x hx' => hx x (by simp [Call.operands] at hx' ⊢; exact .inr hx')
    cases hcal : c.callee with
    | value f => simp only [hcal, hx f (by simp [Call.operands, hcal]), h1]
    | invoke r m => simp only [hcal]
    | builtin b => cases b <;> first | (simp only [hcal]; done) | simp only [hcal, h1]

theorem conv_heap (deep : Bool) : ∀ d, (∀ x c, conv h deep d x = some c → (∀ i ∈ c.rd, h' i = h i) → conv h' deep d x = some c) ∧
    (∀ xs cs rd ok, convL h deep d xs = some (cs, rd, ok) → (∀ i ∈ rd, h' i = h i) → convL h' deep d xs = some (cs, rd, ok)) := by
  intro d
  induction d with
  | zero => exact ⟨fun x c h => by simp [conv] at h, fun xs cs rd ok h => by simp [convL] at h⟩
  | succ d ih =>
    constructor
    · intro x c hc hr
      cases x <;> simp only [conv] at hc ⊢ <;> first | (cases hc; done) | exact hc | skip
      case slc i off len =>
        cases hb : h i with
        | none => rw [hb] at hc; cases hc
        | some b =>
          rw [hb] at hc
          have hi : i ∈ c.rd := by
            cases deep with
            | false => cases hc; simp
            | true =>
              simp only [cond_true] at hc
              split at hc
              · cases hc; simp
              · cases hc
          rw [hr i hi, hb]
          cases deep with
          | false => exact hc
          | true =>
            simp only [cond_true] at hc ⊢
            split at hc
            · rename_i cs rd ok hcl
              cases hc
              rw [ih.2 _ _ _ _ hcl fun j hj => hr j (by simp [hj])]
            · cases hc
      case ptr i off =>
        cases hb : h i with
        | none => rw [hb] at hc; cases hc
        | some b =>
          rw [hb] at hc
          have hi : i ∈ c.rd := by
            cases deep with
            | false => cases hc; simp
            | true =>
              simp only [cond_true] at hc
              split at hc
              · cases hc; simp
              · cases hc
          rw [hr i hi, hb]
          cases deep with
          | false => exact hc
          | true =>
            simp only [cond_true] at hc ⊢
            split at hc
            · rename_i cs rd ok hcl
              cases hc
              rw [ih.2 _ _ _ _ hcl fun j hj => hr j (by simp [hj])]
            · cases hc
      case agg cs =>
        split at hc
        · rename_i cs' rd ok hcl
          cases hc
          rw [ih.2 _ _ _ _ hcl hr]
        · cases hc
      case fn f a c' =>
        split at hc
        · rename_i a' r1 o1 c2 r2 o2 h1 h2
          cases hc
          rw [ih.2 _ _ _ _ h1 fun j hj => hr j (by simp [hj]), ih.2 _ _ _ _ h2 fun j hj => hr j (by simp [hj])]
        · cases hc
    · intro xs cs rd ok hc hr
      cases xs with
      | nil => exact hc
      | cons x xs =>
        simp only [convL] at hc ⊢
        split at hc
        · rename_i c cs' rd' ok' h1 h2
          cases hc
          rw [ih.1 _ _ h1 fun j hj => hr j (by simp [hj]), ih.2 _ _ _ _ h2 fun j hj => hr j (by simp [hj])]
        · cases hc

theorem loadOp_heap {P : Program} {t : TypeId} {a : AV} {e : Eff} (hl : loadOp P t a h = some e) (hr : ∀ i ∈ e.rd, h' i = h i) : loadOp P t a h' = some e := by
  unfold loadOp at *
  split at hl
  · rename_i i off
    have hi : i ∈ e.rd := by
      split at hl
      · split at hl
        · cases hl; simp
        · cases hl
      · cases hl
    simp only [hr i hi]
    exact hl
  · exact hl
  · cases hl

theorem storeOp_heap {P : Program} {t : TypeId} {a x : AV} {e : Eff} (hl : storeOp P t a x h = some e) (hr : ∀ i ∈ e.rd, h' i = h i) : storeOp P t a x h' = some e := by
  unfold storeOp at *
  split at hl
  · rename_i i off
    have hi : i ∈ e.rd := by
      split at hl
      · cases hz : (Nat.beq x.cells.length (esz P t) && Nat.blt 0 (esz P t)) with
        | false => rw [hz] at hl; cases hl
        | true => rw [hz] at hl; cases hl; simp
      · cases hl
    simp only [hr i hi]
    exact hl
  · cases hl

theorem srcV_heap {size : Nat} {x : AV} {news : List AV} {m : Nat} {rd : List Nat} {c : Bool} (hs : srcV size h x = some (news, m, rd, c)) (hr : ∀ i ∈ rd, h' i = h i) : srcV size h' x = some (news, m, rd, c) := by
  unfold srcV at *
  split at hs
  · exact hs
  · exact hs
  · rename_i k o m'
    split at hs
    · rename_i b hb
      have hk : k ∈ rd := by
        simp only [Option.some.injEq, Prod.mk.injEq] at hs
        rw [← hs.2.2.1]; simp
      simp only [hr k hk, hb]
      exact hs
    · cases hs
  · cases hs

theorem appendV_heap {P : Program} {t : TypeId} {s x : AV} {e : Eff} (ha : appendV P t s x h n = some e) (hr : ∀ i ∈ e.rd, h' i = h i) : appendV P t s x h' n = some e := by
  unfold appendV at *
  split at ha
  · cases ha
  · rename_i el hel
    split at ha
    · rename_i i z hi hz
      cases hc : (Nat.beq z.cells.length i.size && Nat.blt 0 i.size) with
      | false => rw [hc] at ha; cases ha
      | true =>
        rw [hc] at ha
        simp only [cond_true] at ha
        simp only [cond_true]
        split at ha
        · cases ha
        · rename_i news m rd c hsrc
          split at ha
          · cases ha
            rw [srcV_heap hsrc hr]
          · rename_i k o len
            split at ha
            · rename_i b hb
              cases hoe : (Nat.beq o 0 && decide (b.ety = el)) with
              | false => rw [hoe] at ha; cases ha
              | true =>
                rw [hoe] at ha
                cases ha
                rw [srcV_heap hsrc fun j hj => hr j (by simp [hj])]
                dsimp only
                rw [hr k (by simp), hb]
                dsimp only
                rw [hoe]
                rfl
            · cases ha
          · cases ha
    · cases ha

theorem callV_heap {f : AV} {args : List AV} {e : Eff} (hc : callV C h n f args = some e) (hr : ∀ i ∈ e.rd, h' i = h i) : callV C h' n f args = some e := by
  unfold callV at *
  split at hc
  · rename_i g first cap
    split at hc
    · rename_i xs rd ok hcv
      split at hc
      · rename_i r hro
        cases hl : Nat.ble r.blks.length 64 with
        | false => rw [hl] at hc; cases hc
        | true =>
          rw [hl] at hc
          cases hc
          rw [(conv_heap (C.deep g) 64).2 _ _ _ _ hcv hr]
          dsimp only
          rw [hro]
          dsimp only
          rw [hl]
          rfl
      · cases hc
    · cases hc
  · cases hc

theorem evOp_heap {o : Oper} {e : Eff} (hev : evOp C env h n o = some e) (hr : ∀ i ∈ e.rd, h' i = h i) : evOp C env h' n o = some e := by
  unfold evOp at *
  cases hop : o.op <;> rw [hop] at hev <;> first | exact hev | (dsimp only at hev ⊢) | skip
  case makeFunc fn a b => cases fn <;> exact hev
  case load t a =>
    split at hev
    · exact loadOp_heap hev hr
    · cases hev
  case store t a x =>
    split at hev
    · exact storeOp_heap hev hr
    · cases hev
  case call c =>
    cases hcal : c.callee <;> rw [hcal] at hev <;> first | exact hev | (dsimp only at hev ⊢) | skip
    case value f =>
      split at hev
      · exact callV_heap hev hr
      · cases hev
    case builtin b =>
      cases b <;> first | exact hev | (dsimp only at hev ⊢) | skip
      case append =>
        split at hev
        · rename_i s x t t' _ _
          cases htt : Nat.beq t t' with
          | false => rw [htt] at hev; cases hev
          | true =>
            rw [htt] at hev
            exact appendV_heap hev hr
        · cases hev

end
end Go.Eng
/- Engine, part 16: a region of operations evaluated in the order of the text; where the footprints allow it, every order comes to the same. Condition: the contracts that the evaluator leans on hold. -/
namespace Go.Eng
open Go Go.RowKit

def gdst (ops : List Oper) (j : Nat) : Option Nat := (ops[j]?).bind (·.dst)

def wantV (ops : List Oper) (env : AEnv) (o : Oper) : Option Bool :=
  match o.guard with
  | none => some true
  | some (j, want) => match gdst ops j with
    | some d => match env d with
      | some (.bool b) => some (b == want)
      | some .undef => some false
      | _ => none
    | none => none

def skipE : Eff := ⟨.undef, [], [], true⟩

def ovr (C : Ctx) (d : Option Nat) (e : Eff) : Eff :=
  match d with
  | some t => match C.ov t with
    | some y => ⟨y, e.wr, e.rd, C.same e.val y && e.ok⟩
    | none => e
  | none => e

theorem ovr_is {C : Ctx} {d : Option Nat} {e : Eff} (h : (ovr C d e).ok = true) : e.ok = true ∧ (ovr C d e).val = e.val ∧ (ovr C d e).wr = e.wr ∧ (ovr C d e).rd = e.rd := by
  unfold ovr at *
  split at h
  · split at h
    · simp only [Bool.and_eq_true] at h
      exact ⟨h.2, (C.same_is _ _ h.1).symm, rfl, rfl⟩
    · exact ⟨h, rfl, rfl, rfl⟩
  · exact ⟨h, rfl, rfl, rfl⟩

theorem ovr_rd (C : Ctx) (d : Option Nat) (e : Eff) : (ovr C d e).rd = e.rd := by
  unfold ovr
  split
  · split <;> rfl
  · rfl

def sOp (C : Ctx) (ops : List Oper) (env : AEnv) (h : AHeap) (n : Nat) (o : Oper) : Option Eff :=
  match wantV ops env o with
  | some true => match evOp C env h n o with
    | some e => some (ovr C o.dst e)
    | none => none
  | some false => some skipE
  | none => none

def updD (env : AEnv) (d : Option Nat) (x : AV) : AEnv :=
  match d with
  | some d => upd env d (some x)
  | none => env

/-- The frame stands to the abstract state. -/
structure RelF (P : Program) (w0 : World) (nt : Nat) (φ : Phi) (im : Im) (env : AEnv) (h : AHeap) (a : Act) (w : World) : Prop where
  hrep : HRep P w0.heap.size φ im h w
  env : ∀ t x, env t = some x → ∃ v, a.tmps[t]? = some v ∧ V im φ x v
  size : a.tmps.size = nt
  defers : a.defers = []
  below : Below w0.heap.size w0 w

theorem RelF.rho {P : Program} {w0 : World} {nt : Nat} {φ : Phi} {im : Im} {env : AEnv} {h : AHeap} {a : Act} {w : World} (R : RelF P w0 nt φ im env h a w) : ∀ t x, env t = some x → V im φ x (a.tmps.getD t undef) := by
  intro t x e
  obtain ⟨v, h1, h2⟩ := R.env t x e
  have : a.tmps.getD t undef = v := by
    rw [Array.getD_eq_getD_getElem?, h1]; rfl
  rw [this]
  exact h2

theorem RelF.put {P : Program} {w0 : World} {nt : Nat} {φ : Phi} {im : Im} {env : AEnv} {h : AHeap} {a : Act} {w : World} (R : RelF P w0 nt φ im env h a w) {dst : Option Nat} (hd : ∀ d, dst = some d → d < nt) {φ' : Phi} {im' : Im} {h' : AHeap} {w' : World} {x : AV} {v : Value}
    (hφ : Phi.le φ φ') (hi : Im.le im im') (hrep : HRep P w0.heap.size φ' im' h' w') (hb : Below w0.heap.size w w') (hv : V im' φ' x v) : RelF P w0 nt φ' im' (updD env dst x) h' (a.put dst v) w' := by
  refine ⟨hrep, ?_, ?_, ?_, R.below.trans hb⟩
  · intro t y e
    cases dst with
    | none =>
      obtain ⟨u, h1, h2⟩ := R.env t y e
      exact ⟨u, h1, h2.mono hφ hi⟩
    | some d =>
      have hdl := hd d rfl
      have hsz := R.size
      simp only [updD] at e
      by_cases htd : t = d
      · subst htd
        rw [upd_same] at e
        cases e
        exact ⟨v, by simp [Act.put, hsz, hdl], hv⟩
      · rw [upd_other _ _ _ htd] at e
        obtain ⟨u, h1, h2⟩ := R.env t y e
        refine ⟨u, ?_, h2.mono hφ hi⟩
        simp only [Act.put]
        rw [Array.getElem?_setIfInBounds_ne (Ne.symm htd)]
        exact h1
  · cases dst with
    | none => exact R.size
    | some d => simpa [Act.put] using R.size
  · cases dst <;> exact R.defers

section
variable {C : Ctx} {w0 : World} {nt : Nat} {φ : Phi} {im : Im} {env : AEnv} {h : AHeap} {a : Act} {w : World} {ops : List Oper} {n : Nat}

theorem wantV_sound {o : Oper} {b : Bool} (R : RelF C.P w0 nt φ im env h a w) (hw : wantV ops env o = some b) : Region.wanted o (yielded ops.toArray a.tmps) = b := by
  unfold wantV at hw
  unfold Region.wanted
  cases hg : o.guard with
  | none => rw [hg] at hw; cases hw; rfl
  | some p =>
    obtain ⟨j, want⟩ := p
    rw [hg] at hw
    dsimp only at hw ⊢
    cases hd : gdst ops j with
    | none => rw [hd] at hw; cases hw
    | some d =>
      rw [hd] at hw
      dsimp only at hw
      have hy : ∀ v, a.tmps[d]? = some v → yielded ops.toArray a.tmps j = (match some v with | some (.bool b) => some b | _ => none) := by
        intro v hv
        unfold yielded
        have : (ops.toArray[j]?).bind (·.dst) = some d := by simpa [gdst] using hd
        rw [this]
        simp only [Option.bind_some, hv]
        cases v <;> rfl
      split at hw
      · rename_i b' he
        cases hw
        obtain ⟨v, h1, h2⟩ := R.env _ _ he
        cases h2
        rw [hy _ h1]
        cases b' <;> cases want <;> rfl
      · rename_i he
        cases hw
        obtain ⟨v, h1, h2⟩ := R.env _ _ he
        cases h2
        rw [hy _ h1]
        cases want <;> rfl
      · cases hw

theorem sOp_sound (hO : OrcOK C.P C.orc) {o : Oper} {e : Eff} {i : Nat} (hi : ops[i]? = some o) (R : RelF C.P w0 nt φ im env h a w) (hd : ∀ d, o.dst = some d → d < nt)
    (hfresh : ∀ i, n ≤ i → i < n + 64 → φ i = none) (hfreshh : ∀ i, n ≤ i → i < n + 64 → h i = none) (hev : sOp C ops env h n o = some e) (hok : e.ok = true) {K : Act → World → Prop} {Q : Exit → Act → World → Prop}
    (hK : ∀ a' w' φ' im', Phi.le φ φ' → Im.le im im' → (∀ i, φ' i ≠ none → φ i ≠ none ∨ (n ≤ i ∧ i < n + 64)) → RelF C.P w0 nt φ' im' (updD env o.dst e.val) (updL h e.wr) a' w' → K a' w') : wpOp C.P ops.toArray Q i K a w := by
  unfold wpOp
  have hi' : ops.toArray[i]? = some o := by simpa using hi
  rw [hi']
  dsimp only
  unfold sOp at hev
  cases hw : wantV ops env o with
  | none => rw [hw] at hev; cases hev
  | some b =>
    rw [hw] at hev
    rw [wantV_sound R hw]
    cases b with
    | true =>
      rw [if_pos rfl]
      left
      dsimp only at hev
      split at hev
      · rename_i e0 he0
        cases hev
        obtain ⟨q1, q2, q3, _⟩ := ovr_is hok
        rw [q2, q3] at hK
        exact evOp_sound hO R.hrep R.below.size R.rho hfresh hfreshh he0 q1 fun r w' φ' im' D =>
          hK _ _ φ' im' D.le D.iml D.news (R.put hd D.le D.iml D.hrep D.below D.val)
      · cases hev
    | false =>
      rw [if_neg (by simp)]
      cases hev
      exact hK _ _ φ im (Phi.le_refl _) (Im.le_refl _) (fun i hi => .inl hi) (R.put hd (Phi.le_refl _) (Im.le_refl _) R.hrep (Below.refl _ _) (.undef _))

end

/-! ### What stands behind some of the operations -/
def dstAt (ops : List Oper) (k : Nat) : Option Nat := (ops[k]?).bind (·.dst)

def envAt (ops : List Oper) (ef : Nat → Eff) (env0 : AEnv) (S : Nat → Bool) : Nat → AEnv
  | 0 => env0
  | k + 1 => bif S k then updD (envAt ops ef env0 S k) (dstAt ops k) (ef k).val else envAt ops ef env0 S k

def heapAt (ef : Nat → Eff) (h0 : AHeap) (S : Nat → Bool) : Nat → AHeap
  | 0 => h0
  | k + 1 => bif S k then updL (heapAt ef h0 S k) (ef k).wr else heapAt ef h0 S k

section
variable {ops : List Oper} {ef : Nat → Eff} {env0 : AEnv} {h0 : AHeap} {S S' : Nat → Bool}

theorem updD_other {env : AEnv} {d : Option Nat} {x : AV} {t : Nat} (h : d ≠ some t) : updD env d x t = env t := by
  cases d with
  | none => rfl
  | some d => exact upd_other _ _ _ (fun e => h (by rw [e]))
theorem updD_same {env : AEnv} {x : AV} {t : Nat} : updD env (some t) x t = some x := upd_same _ _ _

theorem updL_other : ∀ {l : List (Nat × Option ABlk)} {h : AHeap} {i : Nat}, i ∉ l.map (·.1) → updL h l i = h i
  | [], _, _, _ => rfl
  | p :: ps, h, i, hi => by
    simp only [List.map_cons, List.mem_cons, not_or] at hi
    rw [updL, updL_other hi.2, upd_other _ _ _ hi.1]

theorem updL_same : ∀ {l : List (Nat × Option ABlk)} {h h' : AHeap} {i : Nat}, (i ∈ l.map (·.1) ∨ h i = h' i) → updL h l i = updL h' l i
  | [], _, _, _, hi => by rcases hi with hi | hi; simp at hi; exact hi
  | p :: ps, h, h', i, hi => by
    rw [updL, updL]
    apply updL_same
    by_cases hp : i = p.1
    · right; rw [hp, upd_same, upd_same]
    · rw [upd_other _ _ _ hp, upd_other _ _ _ hp]
      rcases hi with hi | hi
      · left; simpa [hp] using hi
      · exact .inr hi

theorem envAt_congr {t : Nat} : ∀ k, (∀ m, m < k → dstAt ops m = some t → S m = S' m) → envAt ops ef env0 S k t = envAt ops ef env0 S' k t
  | 0, _ => rfl
  | k + 1, h => by
    have ih := envAt_congr (t := t) k fun m hm => h m (by omega)
    simp only [envAt]
    by_cases hd : dstAt ops k = some t
    · rw [h k (by omega) hd]
      cases S' k with
      | true => simp only [cond_true]; rw [hd, updD_same, updD_same]
      | false => exact ih
    · cases S k <;> cases S' k <;> simp only [cond_true, cond_false] <;> (try rw [updD_other hd]) <;> (try rw [updD_other hd]) <;> exact ih

theorem heapAt_congr {i : Nat} : ∀ k, (∀ m, m < k → i ∈ (ef m).wr.map (·.1) → S m = S' m) → heapAt ef h0 S k i = heapAt ef h0 S' k i
  | 0, _ => rfl
  | k + 1, h => by
    have ih := heapAt_congr (i := i) k fun m hm => h m (by omega)
    simp only [heapAt]
    by_cases hd : i ∈ (ef k).wr.map (·.1)
    · rw [h k (by omega) hd]
      cases S' k with
      | true => simp only [cond_true]; exact updL_same (.inl hd)
      | false => exact ih
    · cases S k <;> cases S' k <;> simp only [cond_true, cond_false] <;> (try rw [updL_other hd]) <;> (try rw [updL_other hd]) <;> exact ih

/-- One more. -/
def plus (S : Nat → Bool) (i : Nat) : Nat → Bool := fun k => bif Nat.beq k i then true else S k
theorem plus_self (S : Nat → Bool) (i : Nat) : plus S i i = true := by simp [plus]
theorem plus_other (S : Nat → Bool) {i k : Nat} (h : k ≠ i) : plus S i k = S k := by
  have : Nat.beq k i = false := by
    cases e : Nat.beq k i with
    | false => rfl
    | true => exact absurd (Nat.eq_of_beq_eq_true e) h
  simp [plus, this]

theorem envAt_plus {i : Nat} (hS : S i = false) : ∀ k, i < k → (∀ m, i < m → m < k → S m = true → ∀ t, dstAt ops m = some t → dstAt ops i ≠ some t) →
    envAt ops ef env0 (plus S i) k = updD (envAt ops ef env0 S k) (dstAt ops i) (ef i).val := by
  intro k hk hno
  funext t
  by_cases ht : dstAt ops i = some t
  · rw [ht, updD_same]
    induction k with
    | zero => omega
    | succ k ih =>
      simp only [envAt]
      by_cases hki : k = i
      · subst hki
        rw [plus_self, ht]
        simp only [cond_true]
        exact updD_same
      · rw [plus_other S hki]
        have ih' := ih (by omega) fun m h1 h2 => hno m h1 (by omega)
        cases hSk : S k with
        | false => exact ih'
        | true =>
          simp only [cond_true]
          have : dstAt ops k ≠ some t := fun e => hno k (by omega) (by omega) hSk t e ht
          rw [updD_other this]
          exact ih'
  · rw [updD_other ht]
    exact envAt_congr k fun m _ hm => plus_other S (fun e => ht (by rw [← e]; exact hm))

theorem heapAt_plus {i : Nat} (hS : S i = false) : ∀ k, i < k → (∀ m, i < m → m < k → S m = true → ∀ x, x ∈ (ef m).wr.map (·.1) → x ∉ (ef i).wr.map (·.1)) →
    heapAt ef h0 (plus S i) k = updL (heapAt ef h0 S k) (ef i).wr := by
  intro k hk hno
  funext x
  by_cases hx : x ∈ (ef i).wr.map (·.1)
  · induction k with
    | zero => omega
    | succ k ih =>
      simp only [heapAt]
      by_cases hki : k = i
      · subst hki
        rw [plus_self, hS]
        simp only [cond_true, cond_false]
        exact updL_same (.inl hx)
      · rw [plus_other S hki]
        have ih' := ih (by omega) fun m h1 h2 => hno m h1 (by omega)
        cases hSk : S k with
        | false => exact ih'
        | true =>
          simp only [cond_true]
          have : x ∉ (ef k).wr.map (·.1) := fun e => hno k (by omega) (by omega) hSk x e hx
          rw [updL_other this, ih']
          exact updL_same (.inl hx)
  · rw [updL_other hx]
    exact heapAt_congr k fun m _ hm => plus_other S (fun e => hx (by rw [← e]; exact hm))
end
end Go.Eng
/- Engine, part 17: every order of a region that draws comes to what the text's order comes to. Condition: the contracts that the evaluator leans on hold, and the footprints allow it. -/
namespace Go.Eng
open Go Go.RowKit

def tmpsOf : List Operand → List Nat
  | [] => []
  | .tmp t :: xs => t :: tmpsOf xs
  | _ :: xs => tmpsOf xs

def looksOf (ops : List Oper) (o : Oper) : List Nat :=
  tmpsOf o.op.operands.toList ++ (match o.guard with
    | some (j, _) => (gdst ops j).toList
    | none => [])

def maskOf (acc : List Nat) : List Edge → Nat
  | [] => 0
  | e :: es => bif Region.binds .any e then maskOf acc es ||| (2 ^ e.on ||| acc.getD e.on 0) else maskOf acc es

def masks : List Nat → List Oper → List Nat
  | acc, [] => acc
  | acc, o :: os => masks (acc ++ [maskOf acc o.after.toList]) os

structure Rec where
  wr : List Nat
  rd : List Nat

def apartL (xs ys : List Nat) : Bool := xs.all fun x => !ys.elem x

def indepB (ops : List Oper) (o1 : Oper) (r1 : Rec) (o2 : Oper) (r2 : Rec) : Bool :=
  apartL o1.dst.toList (looksOf ops o2) && apartL o1.dst.toList o2.dst.toList && apartL o2.dst.toList (looksOf ops o1) && apartL r1.wr (r2.rd ++ r2.wr) && apartL r2.wr r1.rd

def winB (n0 mask j id : Nat) : Bool := Nat.blt id n0 || (Nat.beq ((id - n0) / 64) j || mask.testBit ((id - n0) / 64))

/-- May the operations come up in any order that their edges allow? -/
def orderB (ops : List Oper) (n0 : Nat) (ms : List Nat) (rs : List Rec) : Bool :=
  (List.range ops.length).all fun j =>
    match ops[j]?, rs[j]? with
    | some oj, some rj =>
      (oj.after.toList.all fun e => !Region.binds .any e || Nat.blt e.on j) &&
      ((rj.rd ++ rj.wr).all fun id => winB n0 (ms.getD j 0) j id) &&
      (List.range j).all fun i => (ms.getD j 0).testBit i ||
        match ops[i]?, rs[i]? with
        | some oi, some ri => indepB ops oi ri oj rj
        | _, _ => false
    | _, _ => false

theorem apartL_is {xs ys : List Nat} (h : apartL xs ys = true) {x : Nat} (hx : x ∈ xs) : x ∉ ys := by
  unfold apartL at h
  rw [List.all_eq_true] at h
  have := h x hx
  simpa using this

theorem tmpsOf_mem : ∀ {xs : List Operand} {t : Nat}, Operand.tmp t ∈ xs → t ∈ tmpsOf xs
  | x :: xs, t, h => by
    simp only [List.mem_cons] at h
    rcases h with h | h
    · subst h; simp [tmpsOf]
    · have := tmpsOf_mem h
      cases x <;> simp [tmpsOf, this]

theorem maskOf_bit {acc : List Nat} {S : Nat → Prop} (hacc : ∀ e i, S e → (acc.getD e 0).testBit i = true → S i) : ∀ (es : List Edge), (∀ e ∈ es, Region.binds .any e = true → S e.on) → ∀ i, (maskOf acc es).testBit i = true → S i
  | [], _, i, h => by simp [maskOf] at h
  | e :: es, he, i, h => by
    simp only [maskOf] at h
    cases hb : Region.binds .any e with
    | false =>
      rw [hb] at h
      exact maskOf_bit hacc es (fun e' h' => he e' (by simp [h'])) i h
    | true =>
      rw [hb] at h
      simp only [cond_true, Nat.testBit_or, Bool.or_eq_true] at h
      have hon := he e (by simp) hb
      rcases h with h | h | h
      · exact maskOf_bit hacc es (fun e' h' => he e' (by simp [h'])) i h
      · rw [Nat.testBit_two_pow] at h
        have : e.on = i := by simpa using h
        rw [← this]; exact hon
      · exact hacc _ _ hon h

theorem masks_bit {S : Nat → Prop} : ∀ (os : List Oper) (acc : List Nat), (∀ k o, os[k]? = some o → S (acc.length + k) → ∀ e ∈ o.after.toList, Region.binds .any e = true → S e.on) →
    (∀ k i, S k → (acc.getD k 0).testBit i = true → S i) → ∀ k i, S k → ((masks acc os).getD k 0).testBit i = true → S i
  | [], acc, _, hacc => hacc
  | o :: os, acc, h, hacc => by
    simp only [masks]
    apply masks_bit (S := S) os
    · intro k o' ho hS
      refine h (k + 1) o' (by simpa using ho) ?_
      simp only [List.length_append, List.length_cons, List.length_nil] at hS
      rw [show acc.length + (k + 1) = acc.length + (0 + 1) + k by omega]
      exact hS
    · intro k i hS hk
      rcases Nat.lt_or_ge k acc.length with hlt | hge
      · refine hacc k i hS ?_
        rw [List.getD_eq_getElem?_getD, List.getElem?_append_left hlt] at hk
        rwa [List.getD_eq_getElem?_getD]
      · by_cases hk0 : k = acc.length
        · subst hk0
          rw [List.getD_eq_getElem?_getD, List.getElem?_append_right (Nat.le_refl _)] at hk
          simp only [Nat.sub_self, List.getElem?_cons_zero, Option.getD_some] at hk
          exact maskOf_bit hacc _ (h 0 o (by simp) (by simpa using hS)) i hk
        · rw [List.getD_eq_getElem?_getD, List.getElem?_append_right hge, List.getElem?_eq_none (by simp; omega)] at hk
          simp at hk

/-- The text's order, as it was evaluated. -/
structure Text (C : Ctx) (ops : List Oper) (ef : Nat → Eff) (env0 : AEnv) (h0 : AHeap) (nt n0 : Nat) : Prop where
  step : ∀ (k : Nat) (o : Oper), ops[k]? = some o → sOp C ops (envAt ops ef env0 (fun _ => true) k) (heapAt ef h0 (fun _ => true) k) (n0 + 64 * k) o = some (ef k)
  ok : ∀ k, k < ops.length → (ef k).ok = true
  dst : ∀ (k : Nat) (o : Oper) (d : Nat), ops[k]? = some o → o.dst = some d → d < nt

theorem wantV_env {ops : List Oper} {env env' : AEnv} {o : Oper} (h : ∀ t ∈ looksOf ops o, env' t = env t) : wantV ops env' o = wantV ops env o := by
  unfold wantV
  cases hg : o.guard with
  | none => rfl
  | some p =>
    obtain ⟨j, want⟩ := p
    dsimp only
    cases hd : gdst ops j with
    | none => rfl
    | some d =>
      dsimp only
      have : env' d = env d := h d (by simp [looksOf, hg, hd])
      rw [this]

theorem opd_env {env env' : AEnv} {xs : List Operand} (h : ∀ t ∈ tmpsOf xs, env' t = env t) : ∀ x ∈ xs, opd env' x = opd env x := by
  intro x hx
  cases x with
  | tmp t => exact h t (tmpsOf_mem hx)
  | const v => rfl
  | global g => rfl
  | func f => rfl

theorem sOp_same {C : Ctx} {ops : List Oper} {env env' : AEnv} {h h' : AHeap} {n : Nat} {o : Oper} {e : Eff} (hev : sOp C ops env h n o = some e) (h1 : ∀ t ∈ looksOf ops o, env' t = env t) (h2 : ∀ i ∈ e.rd, h' i = h i) : sOp C ops env' h' n o = some e := by
  unfold sOp at *
  rw [wantV_env h1]
  cases hw : wantV ops env o with
  | none => rw [hw] at hev; cases hev
  | some b =>
    rw [hw] at hev
    cases b with
    | true =>
      dsimp only at hev ⊢
      rw [evOp_env (opd_env fun t ht => h1 t (by simp [looksOf, ht]))]
      split at hev
      · rename_i e0 he0
        cases hev
        rw [evOp_heap he0 (by rw [ovr_rd] at h2; exact h2)]
      · cases hev
    | false => exact hev

section
variable {C : Ctx} {w0 : World} {ops : List Oper} {ef : Nat → Eff} {env0 : AEnv} {h0 : AHeap} {nt n0 : Nat}

/-- The places of what has not come up yet are free. -/
def FreeAt (φ : Phi) (n0 : Nat) (S : Nat → Bool) : Prop := ∀ id, n0 ≤ id → φ id ≠ none → S ((id - n0) / 64) = true

structure Inv (C : Ctx) (w0 : World) (nt : Nat) (ops : List Oper) (ef : Nat → Eff) (env0 : AEnv) (h0 : AHeap) (n0 : Nat) (listed : Array Bool) (a : Act) (w : World) : Prop where
  rel : ∃ φ im, RelF C.P w0 nt φ im (envAt ops ef env0 (fun k => listed.getD k false) ops.length) (heapAt ef h0 (fun k => listed.getD k false) ops.length) a w ∧ FreeAt φ n0 (fun k => listed.getD k false)
  size : listed.size = ops.length
  down : ∀ (k : Nat) (o : Oper), ops[k]? = some o → listed.getD k false = true → ∀ e ∈ o.after.toList, Region.binds .any e = true → listed.getD e.on false = true

theorem wpAny_of_inv {Q : Exit → Act → World → Prop} (hlast : ∀ a w, (∃ φ im, RelF C.P w0 nt φ im (envAt ops ef env0 (fun _ => true) ops.length) (heapAt ef h0 (fun _ => true) ops.length) a w ∧ FreeAt φ n0 (fun k => decide (k < ops.length))) → Q .normal a w)
    (hback : ∀ (k : Nat) (o : Oper), ops[k]? = some o → ∀ e ∈ o.after.toList, Region.binds .any e = true → e.on < k)
    (hstep : ∀ listed a w i, Inv C w0 nt ops ef env0 h0 n0 listed a w → i ∈ Region.ready .any ops.toArray listed → wpOp C.P ops.toArray Q i (fun a' w' => Inv C w0 nt ops ef env0 h0 n0 (listed.setIfInBounds i true) a' w') a w) :
    ∀ (fuel : Nat) (listed : Array Bool) (a : Act) (w : World), Inv C w0 nt ops ef env0 h0 n0 listed a w → ops.length ≤ fuel + ((List.range ops.length).filter fun k => listed.getD k false).length → wpAny C.P .any ops.toArray Q fuel listed a w := by
  have all_listed : ∀ listed a w, Inv C w0 nt ops ef env0 h0 n0 listed a w → (∀ k, k < ops.length → listed.getD k false = true) → Q .normal a w := by
    intro listed a w hI hall
    refine hlast a w ?_
    obtain ⟨φ, im, hR, hF⟩ := hI.rel
    refine ⟨φ, im, ?_, ?_⟩
    · have e1 : envAt ops ef env0 (fun k => listed.getD k false) ops.length = envAt ops ef env0 (fun _ => true) ops.length := funext fun t => envAt_congr _ fun m hm _ => hall m hm
      have e2 : heapAt ef h0 (fun k => listed.getD k false) ops.length = heapAt ef h0 (fun _ => true) ops.length := funext fun t => heapAt_congr _ fun m hm _ => hall m hm
      rw [← e1, ← e2]
      exact hR
    · intro id h1 h2
      have : listed.getD ((id - n0) / 64) false = true := hF id h1 h2
      have hlt : (id - n0) / 64 < listed.size := by
        rcases Nat.lt_or_ge ((id - n0) / 64) listed.size with h | h
        · exact h
        · rw [Array.getD_eq_getD_getElem?, Array.getElem?_eq_none h] at this; simp at this
      rw [hI.size] at hlt
      simpa using hlt
  have ready_of : ∀ listed a w, Inv C w0 nt ops ef env0 h0 n0 listed a w → ∀ k, k < ops.length → listed.getD k false = false → Region.ready .any ops.toArray listed ≠ [] := by
    intro listed a w hI k
    induction k using Nat.strongRecOn with
    | _ k ih =>
      intro hk hun hnil
      have hmem : k ∈ Region.ready .any ops.toArray listed := by
        rw [mem_ready]
        refine ⟨?_, ops[k], by simp [hk], ?_⟩
        · have : k < listed.size := by rw [hI.size]; exact hk
          rw [Array.getD_eq_getD_getElem?, Array.getElem?_eq_getElem this] at hun ⊢
          simpa using hun
        · intro e he hb
          have hlt := hback k ops[k] (by simp [hk]) e (by simpa using he) hb
          cases hl : listed.getD e.on false with
          | true => rfl
          | false => exact absurd hnil (ih e.on hlt (by omega) hl)
      rw [hnil] at hmem
      cases hmem
  intro fuel
  induction fuel with
  | zero =>
    intro listed a w hI hc
    have hall : ∀ k, k < ops.length → listed.getD k false = true := by
      intro k hk
      have hlen : ((List.range ops.length).filter fun k => listed.getD k false).length = (List.range ops.length).length := by
        have := List.length_filter_le (fun k => listed.getD k false) (List.range ops.length)
        simp only [List.length_range] at *
        omega
      have := (List.length_filter_eq_length_iff.1 hlen) k (by simpa using hk)
      exact this
    refine ⟨?_, all_listed listed a w hI hall⟩
    apply List.eq_nil_iff_forall_not_mem.2
    intro k hk
    rw [mem_ready] at hk
    obtain ⟨h1, o, ho, _⟩ := hk
    have hk' : k < ops.length := by
      have := (Array.getElem?_eq_some_iff.1 ho).1
      simpa using this
    have := hall k hk'
    have hs : k < listed.size := by rw [hI.size]; exact hk'
    rw [Array.getD_eq_getD_getElem?, Array.getElem?_eq_getElem hs] at h1 this
    simp at h1 this
    rw [h1] at this
    cases this
  | succ fuel ih =>
    intro listed a w hI hc
    refine ⟨fun hnil => all_listed listed a w hI fun k hk => ?_, fun i hi => ?_⟩
    · cases hl : listed.getD k false with
      | true => rfl
      | false => exact absurd hnil (ready_of listed a w hI k hk hl)
    · refine wpOp_mono (fun a' w' hI' => ih _ a' w' hI' ?_) (hstep listed a w i hI hi)
      rw [mem_ready] at hi
      obtain ⟨h1, o, ho, _⟩ := hi
      have hi' : i < ops.length := by
        have := (Array.getElem?_eq_some_iff.1 ho).1
        simpa using this
      have hs : i < listed.size := by rw [hI.size]; exact hi'
      have key : ((List.range ops.length).filter fun k => listed.getD k false).length + 1 ≤ ((List.range ops.length).filter fun k => (listed.setIfInBounds i true).getD k false).length := by
        have hfun : ∀ k, (listed.setIfInBounds i true).getD k false = plus (fun k => listed.getD k false) i k := by
          intro k
          by_cases hk : k = i
          · subst hk
            rw [plus_self, Array.getD_eq_getD_getElem?, Array.getElem?_setIfInBounds_self_of_lt hs]
            rfl
          · rw [plus_other _ hk, Array.getD_eq_getD_getElem?, Array.getElem?_setIfInBounds_ne (Ne.symm hk), Array.getD_eq_getD_getElem?]
        have hun : (fun k => listed.getD k false) i = false := by
          show listed.getD i false = false
          rw [Array.getD_eq_getD_getElem?, Array.getElem?_eq_getElem hs] at h1 ⊢
          simpa using h1
        simp only [hfun]
        clear hc hI' ih hfun h1 ho hs
        generalize (fun k => listed.getD k false) = S at *
        have gen : ∀ (l : List Nat), l.Nodup → i ∈ l → (l.filter S).length + 1 ≤ (l.filter (plus S i)).length := by
          intro l
          induction l with
          | nil => intro _ h; cases h
          | cons x l ihl =>
            intro hnd hmem
            rw [List.nodup_cons] at hnd
            by_cases hx : x = i
            · subst hx
              have hsame : l.filter (plus S x) = l.filter S := by
                apply List.filter_congr
                intro y hy
                exact plus_other S (fun e => hnd.1 (e ▸ hy))
              rw [List.filter_cons, List.filter_cons, plus_self, hun, hsame]
              simp
            · have hmem' : i ∈ l := by
                simp only [List.mem_cons] at hmem
                rcases hmem with h | h
                · exact absurd h.symm hx
                · exact h
              have := ihl hnd.2 hmem'
              rw [List.filter_cons, List.filter_cons, plus_other S hx]
              cases S x <;> simp <;> omega
        exact gen _ List.nodup_range (by simpa using hi')
      omega

end
end Go.Eng
/- Engine, part 18: a region, evaluated along decisions; its soundness, drawn or not. Condition: the contracts that the evaluator leans on hold, the decisions are what the tests say. -/
namespace Go.Eng
open Go Go.RowKit

section
variable {C : Ctx} {w0 : World} {ops : List Oper} {ef : Nat → Eff} {env0 : AEnv} {h0 : AHeap} {nt n0 : Nat}

theorem getD_set_plus {listed : Array Bool} {i : Nat} (hs : i < listed.size) : (fun k => (listed.setIfInBounds i true).getD k false) = plus (fun k => listed.getD k false) i := by
  funext k
  by_cases hk : k = i
  · subst hk
    rw [plus_self, Array.getD_eq_getD_getElem?, Array.getElem?_setIfInBounds_self_of_lt hs]
    rfl
  · rw [plus_other _ hk, Array.getD_eq_getD_getElem?, Array.getElem?_setIfInBounds_ne (Ne.symm hk), Array.getD_eq_getD_getElem?]

theorem envAt_lt (i : Nat) : ∀ k, envAt ops ef env0 (fun m => decide (m < i)) (i + k) = envAt ops ef env0 (fun _ => true) i
  | 0 => funext fun t => envAt_congr _ fun m hm _ => by simpa using hm
  | k + 1 => by
    show (bif decide (i + k < i) then _ else _) = _
    have : decide (i + k < i) = false := by simp
    rw [this]
    exact envAt_lt i k

theorem heapAt_lt (i : Nat) : ∀ k, heapAt ef h0 (fun m => decide (m < i)) (i + k) = heapAt ef h0 (fun _ => true) i
  | 0 => funext fun t => heapAt_congr _ fun m hm _ => by simpa using hm
  | k + 1 => by
    show (bif decide (i + k < i) then _ else _) = _
    have : decide (i + k < i) = false := by simp
    rw [this]
    exact heapAt_lt i k

/-- Where there is something, somebody has laid it. -/
theorem heapAt_some {S : Nat → Bool} {x : Nat} : ∀ k, heapAt ef h0 S k x ≠ none → h0 x ≠ none ∨ ∃ m, m < k ∧ S m = true ∧ x ∈ (ef m).wr.map (·.1)
  | 0, h => .inl h
  | k + 1, h => by
    simp only [heapAt] at h
    cases hS : S k with
    | false =>
      rw [hS] at h
      rcases heapAt_some k h with h | ⟨m, h1, h2⟩
      · exact .inl h
      · exact .inr ⟨m, by omega, h2⟩
    | true =>
      rw [hS] at h
      simp only [cond_true] at h
      by_cases hx : x ∈ (ef k).wr.map (·.1)
      · exact .inr ⟨k, by omega, hS, hx⟩
      · rw [updL_other hx] at h
        rcases heapAt_some k h with h | ⟨m, h1, h2⟩
        · exact .inl h
        · exact .inr ⟨m, by omega, h2⟩

structure Ordered (ops : List Oper) (ef : Nat → Eff) (n0 : Nat) : Prop where
  back : ∀ (k : Nat) (o : Oper), ops[k]? = some o → ∀ e ∈ o.after.toList, Region.binds .any e = true → e.on < k
  win : ∀ j, j < ops.length → ∀ id, id ∈ (ef j).rd ∨ id ∈ (ef j).wr.map (·.1) → winB n0 ((masks [] ops).getD j 0) j id = true
  pair : ∀ (i j : Nat) (oi oj : Oper), i < j → ops[i]? = some oi → ops[j]? = some oj → ((masks [] ops).getD j 0).testBit i = true ∨ indepB ops oi ⟨(ef i).wr.map (·.1), (ef i).rd⟩ oj ⟨(ef j).wr.map (·.1), (ef j).rd⟩ = true

theorem ordered_of {rs : List Rec} (hrs : ∀ k, k < ops.length → rs[k]? = some ⟨(ef k).wr.map (·.1), (ef k).rd⟩) (h : orderB ops n0 (masks [] ops) rs = true) : Ordered ops ef n0 := by
  unfold orderB at h
  rw [List.all_eq_true] at h
  have key : ∀ (j : Nat) (oj : Oper), ops[j]? = some oj → (oj.after.toList.all fun e => !Region.binds .any e || Nat.blt e.on j) = true ∧
      (((ef j).rd ++ (ef j).wr.map (·.1)).all fun id => winB n0 ((masks [] ops).getD j 0) j id) = true ∧
      ((List.range j).all fun i => ((masks [] ops).getD j 0).testBit i || match ops[i]?, rs[i]? with
        | some oi, some ri => indepB ops oi ri oj ⟨(ef j).wr.map (·.1), (ef j).rd⟩
        | _, _ => false) = true := by
    intro j oj hoj
    have hj : j < ops.length := (List.getElem?_eq_some_iff.1 hoj).1
    have := h j (by simpa using hj)
    rw [hoj, hrs j hj] at this
    simp only [Bool.and_eq_true] at this
    exact ⟨this.1.1, this.1.2, this.2⟩
  refine ⟨fun k o ho e he hb => ?_, fun j hj id hid => ?_, fun i j oi oj hij hoi hoj => ?_⟩
  · have := (key k o ho).1
    rw [List.all_eq_true] at this
    have := this e he
    rw [hb] at this
    simpa [Nat.blt_eq] using this
  · have := (key j ops[j] (by simp [hj])).2.1
    rw [List.all_eq_true] at this
    exact this id (by rw [List.mem_append]; exact hid)
  · have := (key j oj hoj).2.2
    rw [List.all_eq_true] at this
    have := this i (by simpa using hij)
    have hi : i < ops.length := (List.getElem?_eq_some_iff.1 hoi).1
    rw [hoi, hrs i hi] at this
    simpa using this

/-! ### The same, with what the text alone tells apart from what the run tells -/
def statPair (ops : List Oper) (o1 o2 : Oper) : Bool := apartL o1.dst.toList (looksOf ops o2) && apartL o1.dst.toList o2.dst.toList && apartL o2.dst.toList (looksOf ops o1)

def statB (ops : List Oper) : Bool :=
  (List.range ops.length).all fun j => match ops[j]? with
    | some oj => (oj.after.toList.all fun e => !Region.binds .any e || Nat.blt e.on j) &&
      (List.range j).all fun i => ((masks [] ops).getD j 0).testBit i || match ops[i]? with
        | some oi => statPair ops oi oj
        | none => false
    | none => false

def openPairs (ops : List Oper) : List (Nat × Nat) :=
  (List.range ops.length).flatMap fun j => ((List.range j).filter fun i => !((masks [] ops).getD j 0).testBit i).map fun i => (i, j)

def dynB (ms : List Nat) (n0 : Nat) : Nat → List Rec → Bool
  | _, [] => true
  | j, r :: rs => ((r.rd ++ r.wr).all fun id => winB n0 (ms.getD j 0) j id) && dynB ms n0 (j + 1) rs

def pairB (rs : List Rec) : List (Nat × Nat) → Bool
  | [] => true
  | p :: ps => (match rs[p.1]?, rs[p.2]? with
    | some ri, some rj => apartL ri.wr (rj.rd ++ rj.wr) && apartL rj.wr ri.rd
    | _, _ => false) && pairB rs ps

def orderF (ops : List Oper) (n0 : Nat) (rs : List Rec) : Bool := statB ops && (Nat.beq rs.length ops.length && (dynB (masks [] ops) n0 0 rs && pairB rs (openPairs ops)))

theorem dynB_is {ms : List Nat} {n0 : Nat} : ∀ {rs : List Rec} {j : Nat}, dynB ms n0 j rs = true → ∀ (k : Nat) (r : Rec), rs[k]? = some r → ((r.rd ++ r.wr).all fun id => winB n0 (ms.getD (j + k) 0) (j + k) id) = true
  | [], _, _, k, r, h => by simp at h
  | q :: rs, j, h, 0, r, hr => by
    simp only [List.getElem?_cons_zero, Option.some.injEq] at hr
    subst hr
    simp only [dynB, Bool.and_eq_true] at h
    exact h.1
  | q :: rs, j, h, k + 1, r, hr => by
    simp only [dynB, Bool.and_eq_true] at h
    have := dynB_is h.2 k r (by simpa using hr)
    rw [show j + (k + 1) = j + 1 + k by omega]
    exact this

theorem pairB_is {rs : List Rec} : ∀ {ps : List (Nat × Nat)}, pairB rs ps = true → ∀ p ∈ ps, ∃ ri rj, rs[p.1]? = some ri ∧ rs[p.2]? = some rj ∧ apartL ri.wr (rj.rd ++ rj.wr) = true ∧ apartL rj.wr ri.rd = true
  | [], _, p, hp => by simp at hp
  | q :: ps, h, p, hp => by
    simp only [pairB, Bool.and_eq_true] at h
    rcases List.mem_cons.1 hp with rfl | hp
    · have h1 := h.1
      split at h1
      · rename_i ri rj e1 e2
        simp only [Bool.and_eq_true] at h1
        exact ⟨ri, rj, e1, e2, h1.1, h1.2⟩
      · cases h1
    · exact pairB_is h.2 p hp

theorem orderF_is {ops : List Oper} {n0 : Nat} {rs : List Rec} (h : orderF ops n0 rs = true) : orderB ops n0 (masks [] ops) rs = true := by
  simp only [orderF, Bool.and_eq_true] at h
  obtain ⟨h1, h2, h3, h4⟩ := h
  have hlen := Nat.eq_of_beq_eq_true h2
  unfold orderB
  rw [List.all_eq_true]
  intro j hj
  have hj' : j < ops.length := by simpa using hj
  have e1 : ops[j]? = some ops[j] := by simp [hj']
  have e2 : rs[j]? = some (rs[j]'(by omega)) := by simp [hlen, hj']
  rw [e1, e2]
  unfold statB at h1
  rw [List.all_eq_true] at h1
  have h1j := h1 j hj
  rw [e1] at h1j
  simp only [Bool.and_eq_true] at h1j ⊢
  refine ⟨⟨h1j.1, ?_⟩, ?_⟩
  · have := dynB_is h3 j _ e2
    simpa using this
  · rw [List.all_eq_true]
    intro i hi
    have hij : i < j := by simpa using hi
    have e3 : ops[i]? = some ops[i] := by simp
    have e4 : rs[i]? = some (rs[i]'(by omega)) := by simp
    cases hb : ((masks [] ops).getD j 0).testBit i with
    | true => rfl
    | false =>
      rw [Bool.false_or, e3, e4]
      have h1i := h1j.2
      rw [List.all_eq_true] at h1i
      have := h1i i hi
      rw [hb, Bool.false_or, e3] at this
      have hmem : (i, j) ∈ openPairs ops := by
        unfold openPairs
        rw [List.mem_flatMap]
        refine ⟨j, hj, ?_⟩
        rw [List.mem_map]
        exact ⟨i, by rw [List.mem_filter]; exact ⟨hi, by rw [hb]; rfl⟩, rfl⟩
      obtain ⟨ri, rj, g1, g2, g3, g4⟩ := pairB_is h4 (i, j) hmem
      rw [e4] at g1
      rw [e2] at g2
      cases g1
      cases g2
      simp only [statPair, Bool.and_eq_true] at this
      simp only [indepB, Bool.and_eq_true]
      exact ⟨⟨⟨⟨this.1.1, this.1.2⟩, this.2⟩, g3⟩, g4⟩

/-- A region that draws its order. -/
theorem region_draw (hO : OrcOK C.P C.orc) (hm : C.P.follows .mixedOrders = true) (T : Text C ops ef env0 h0 nt n0) (O : Ordered ops ef n0) {φ : Phi} {im : Im} {a : Act} {w : World} (R : RelF C.P w0 nt φ im env0 h0 a w)
    (fφ : ∀ id, n0 ≤ id → φ id = none) (fh : ∀ id, n0 ≤ id → h0 id = none) {id : Nat} {Q : Exit → Act → World → Prop}
    (hQ : ∀ a' w' φ' im', RelF C.P w0 nt φ' im' (envAt ops ef env0 (fun _ => true) ops.length) (heapAt ef h0 (fun _ => true) ops.length) a' w' → (∀ i, n0 + 64 * ops.length ≤ i → φ' i = none) → Q .normal a' w') :
    (Code.region id ops.toArray true).wp C.P Q a w := by
  refine wp_region_any hm ?_
  refine wpAny_of_inv (w0 := w0) (nt := nt) (n0 := n0) (ef := ef) (env0 := env0) (h0 := h0) ?_ O.back ?_ _ _ _ _ ?_ ?_
  · rintro a' w' ⟨φ', im', hR, hF⟩
    refine hQ a' w' φ' im' hR fun i hi => ?_
    cases hp : φ' i with
    | none => rfl
    | some l =>
      have := hF i (by omega) (by rw [hp]; simp)
      have h2 : (i - n0) / 64 < ops.length := by simpa using this
      rw [Nat.div_lt_iff_lt_mul (by omega)] at h2
      omega
  · intro listed a w i hI hi
    rw [mem_ready] at hi
    obtain ⟨hun, o, ho, hedges⟩ := hi
    have ho' : ops[i]? = some o := by simpa using ho
    have hil : i < ops.length := (List.getElem?_eq_some_iff.1 ho').1
    have his : i < listed.size := by rw [hI.size]; exact hil
    obtain ⟨φ, im, hR, hF⟩ := hI.rel
    have hSi : (fun k => listed.getD k false) i = false := by
      show listed.getD i false = false
      rw [Array.getD_eq_getD_getElem?, Array.getElem?_eq_getElem his] at hun ⊢
      simpa using hun
    have hdown := hI.down
    have hsize := hI.size
    have hplus := getD_set_plus his
    have hedges' : ∀ e ∈ o.after.toList, Region.binds .any e = true → (fun k => listed.getD k false) e.on = true := fun e he hb => hedges e (by simpa using he) hb
    have hdown' : ∀ (k : Nat) (o : Oper), ops[k]? = some o → (fun k => listed.getD k false) k = true → ∀ e ∈ o.after.toList, Region.binds .any e = true → (fun k => listed.getD k false) e.on = true := hdown
    generalize hSdef : (fun k => listed.getD k false) = S at *
    -- what an edge says of those that have come up
    have bitS : ∀ j k, S j = true → ((masks [] ops).getD j 0).testBit k = true → S k = true :=
      masks_bit (S := fun k => S k = true) ops [] (fun k o' h1 h2 => hdown' k o' h1 (by simpa using h2)) (fun k i _ hk => by simp at hk)
    have bitI : ∀ k, ((masks [] ops).getD i 0).testBit k = true → S k = true ∨ k = i := by
      intro k hk
      have := masks_bit (S := fun k => S k = true ∨ k = i) ops [] (fun k' o' h1 h2 e he hb => by
        simp only [List.length_nil, Nat.zero_add] at h2
        rcases h2 with h2 | h2
        · exact .inl (hdown' k' o' h1 h2 e he hb)
        · subst h2
          rw [ho'] at h1
          cases h1
          exact .inl (hedges' e he hb)) (fun k i _ hk => by simp at hk) i k (.inr rfl) hk
      exact this
    have hlenE : envAt ops ef env0 (fun _ => true) i = envAt ops ef env0 (fun m => decide (m < i)) ops.length := by
      have := envAt_lt (ops := ops) (ef := ef) (env0 := env0) i (ops.length - i)
      rw [show i + (ops.length - i) = ops.length by omega] at this
      exact this.symm
    have hlenH : heapAt ef h0 (fun _ => true) i = heapAt ef h0 (fun m => decide (m < i)) ops.length := by
      have := heapAt_lt (ef := ef) (h0 := h0) i (ops.length - i)
      rw [show i + (ops.length - i) = ops.length by omega] at this
      exact this.symm
    -- before, after, apart
    have rel_lt : ∀ (m : Nat) (om : Oper), ops[m]? = some om → m < i → S m = true ∨ indepB ops om ⟨(ef m).wr.map (·.1), (ef m).rd⟩ o ⟨(ef i).wr.map (·.1), (ef i).rd⟩ = true := by
      intro m om hom hmi
      rcases O.pair m i om o hmi hom ho' with h | h
      · rcases bitI m h with h | h
        · exact .inl h
        · omega
      · exact .inr h
    have rel_gt : ∀ (m : Nat) (om : Oper), ops[m]? = some om → i < m → S m = false ∨ indepB ops o ⟨(ef i).wr.map (·.1), (ef i).rd⟩ om ⟨(ef m).wr.map (·.1), (ef m).rd⟩ = true := by
      intro m om hom hmi
      rcases O.pair i m o om hmi ho' hom with h | h
      · cases hSm : S m with
        | false => exact .inl rfl
        | true => rw [bitS m i hSm h] at hSi; cases hSi
      · exact .inr h
    have hev : sOp C ops (envAt ops ef env0 S ops.length) (heapAt ef h0 S ops.length) (n0 + 64 * i) o = some (ef i) := by
      refine sOp_same (T.step i o ho') ?_ ?_
      · intro t ht
        rw [hlenE]
        refine envAt_congr _ fun m hm hd => ?_
        have hom : ops[m]? = some ops[m] := by simp [hm]
        have hdm : ops[m].dst = some t := by simpa [dstAt, hom] using hd
        rcases Nat.lt_trichotomy m i with h | h | h
        · have e : decide (m < i) = true := by simpa using h
          rw [e]
          rcases rel_lt m _ hom h with g | g
          · exact g
          · simp only [indepB, Bool.and_eq_true] at g
            exact absurd ht (apartL_is g.1.1.1.1 (by simp [hdm]))
        · subst h
          rw [hSi]; simp
        · have e : decide (m < i) = false := by simp; omega
          rw [e]
          rcases rel_gt m _ hom h with g | g
          · exact g
          · simp only [indepB, Bool.and_eq_true] at g
            exact absurd ht (apartL_is g.1.1.2 (by simp [hdm]))
      · intro x hx
        rw [hlenH]
        refine heapAt_congr _ fun m hm hd => ?_
        have hom : ops[m]? = some ops[m] := by simp [hm]
        rcases Nat.lt_trichotomy m i with h | h | h
        · have e : decide (m < i) = true := by simpa using h
          rw [e]
          rcases rel_lt m _ hom h with g | g
          · exact g
          · simp only [indepB, Bool.and_eq_true] at g
            exact absurd (List.mem_append.2 (.inl hx)) (apartL_is g.1.2 hd)
        · subst h
          rw [hSi]; simp
        · have e : decide (m < i) = false := by simp; omega
          rw [e]
          rcases rel_gt m _ hom h with g | g
          · exact g
          · simp only [indepB, Bool.and_eq_true] at g
            exact absurd hx (apartL_is g.2 hd)
    have hwin : ∀ id, n0 + 64 * i ≤ id → id < n0 + 64 * i + 64 → (id - n0) / 64 = i := fun id h1 h2 => by
      rw [Nat.div_eq_iff (by omega)]; omega
    refine sOp_sound hO ho' hR (fun d hd => T.dst i o d ho' hd) ?_ ?_ hev (T.ok i hil) fun a' w' φ' im' hφ' him' hnews hR' => ?_
    · intro id h1 h2
      cases hp : φ id with
      | none => rfl
      | some l =>
        have := hF id (by omega) (by rw [hp]; simp)
        rw [hwin id h1 h2, hSi] at this
        cases this
    · intro id h1 h2
      cases hp : heapAt ef h0 S ops.length id with
      | none => rfl
      | some l =>
        exfalso
        rcases heapAt_some _ (by rw [hp]; simp) with g | ⟨m, g1, g2, g3⟩
        · exact g (fh id (by omega))
        · have := O.win m g1 id (.inr g3)
          unfold winB at this
          rw [hwin id h1 h2] at this
          simp only [Bool.or_eq_true, Nat.blt_eq] at this
          rcases this with g | g | g
          · omega
          · have : i = m := Nat.eq_of_beq_eq_true g
            subst this
            rw [hSi] at g2; cases g2
          · rw [bitS m i g2 g] at hSi; cases hSi
    · refine ⟨⟨φ', im', ?_, ?_⟩, by simpa using hsize, ?_⟩
      · rw [hplus]
        rw [envAt_plus hSi _ hil, heapAt_plus hSi _ hil]
        · have : dstAt ops i = o.dst := by simp [dstAt, ho']
          rw [this]
          exact hR'
        · intro m h1 h2 h3 x hx hx'
          have hom : ops[m]? = some ops[m] := by simp [h2]
          rcases rel_gt m _ hom h1 with g | g
          · rw [h3] at g; cases g
          · simp only [indepB, Bool.and_eq_true] at g
            exact absurd (List.mem_append.2 (.inr hx)) (apartL_is g.1.2 hx')
        · intro m h1 h2 h3 t hd hd'
          have hom : ops[m]? = some ops[m] := by simp [h2]
          rcases rel_gt m _ hom h1 with g | g
          · rw [h3] at g; cases g
          · simp only [indepB, Bool.and_eq_true] at g
            have e1 : ops[m].dst = some t := by simpa [dstAt, hom] using hd
            have e2 : o.dst = some t := by simpa [dstAt, ho'] using hd'
            exact absurd (show t ∈ ops[m].dst.toList by simp [e1]) (apartL_is g.1.1.1.2 (by simp [e2]))
      · rw [hplus]
        intro id h1 h2
        rcases hnews id h2 with g | ⟨g1, g2⟩
        · have := hF id h1 g
          by_cases hk : (id - n0) / 64 = i
          · rw [hk]; exact plus_self _ _
          · rw [plus_other _ hk]; exact this
        · rw [hwin id g1 g2]; exact plus_self _ _
      · intro k ok hok hl e he hb
        have hfun : ∀ k, (listed.setIfInBounds i true).getD k false = plus S i k := fun k => congrFun hplus k
        have hl' : plus S i k = true := by rw [← hfun]; exact hl
        show (listed.setIfInBounds i true).getD e.on false = true
        have goal' : plus S i e.on = true := by
          have hon : S e.on = true := by
            by_cases hk : k = i
            · subst hk
              rw [ho'] at hok
              cases hok
              exact hedges' e he hb
            · rw [plus_other _ hk] at hl'
              exact hdown' k ok hok hl' e he hb
          by_cases hk : e.on = i
          · rw [hk]; exact plus_self _ _
          · rw [plus_other _ hk]; exact hon
        rw [hfun]
        exact goal'
  · have hrep : ∀ k, (Array.replicate ops.length false).getD k false = false := by
      intro k
      rw [Array.getD_eq_getD_getElem?]
      by_cases hk : k < ops.length
      · simp [hk]
      · simp [hk]
    have e0 : (fun k => (Array.replicate ops.toArray.size false).getD k false) = fun _ => false := by
      funext k; simpa using hrep k
    refine ⟨⟨φ, im, ?_, ?_⟩, by simp, ?_⟩
    · rw [e0]
      have e1 : envAt ops ef env0 (fun _ => false) ops.length = env0 := funext fun t => by
        rw [show ops.length = 0 + ops.length by omega]
        generalize ops.length = m
        induction m with
        | zero => rfl
        | succ m ih => exact ih
      have e2 : heapAt ef h0 (fun _ => false) ops.length = h0 := funext fun t => by
        generalize ops.length = m
        induction m with
        | zero => rfl
        | succ m ih => exact ih
      rw [e1, e2]
      exact ⟨R.hrep.heap_eq rfl, R.env, R.size, R.defers, R.below.drew⟩
    · intro id h1 h2
      exact absurd (fφ id h1) h2
    · intro k o _ hl
      have : (fun k => (Array.replicate ops.toArray.size false).getD k false) k = true := hl
      rw [e0] at this
      cases this
  · simp
end
end Go.Eng
/- Engine, part 19: a region in its own order; regions evaluated along decisions. Condition: the contracts that the evaluator leans on hold, the decisions are what the tests say. -/
namespace Go.Eng
open Go Go.RowKit

section
variable {C : Ctx} {w0 : World} {ops : List Oper} {ef : Nat → Eff} {env0 : AEnv} {h0 : AHeap} {nt n0 : Nat}

theorem region_seq (hO : OrcOK C.P C.orc) (T : Text C ops ef env0 h0 nt n0) (W : ∀ j, j < ops.length → ∀ id, id ∈ (ef j).wr.map (·.1) → id < n0 ∨ (id - n0) / 64 ≤ j) {φ : Phi} {im : Im} {a : Act} {w : World} (R : RelF C.P w0 nt φ im env0 h0 a w)
    (fφ : ∀ id, n0 ≤ id → φ id = none) (fh : ∀ id, n0 ≤ id → h0 id = none) {id : Nat} {Q : Exit → Act → World → Prop}
    (hQ : ∀ a' w' φ' im', RelF C.P w0 nt φ' im' (envAt ops ef env0 (fun _ => true) ops.length) (heapAt ef h0 (fun _ => true) ops.length) a' w' → (∀ i, n0 + 64 * ops.length ≤ i → φ' i = none) → Q .normal a' w') :
    (Code.region id ops.toArray false).wp C.P Q a w := by
  refine wp_region ?_
  rw [List.range_eq_range']
  have key : ∀ m k, k + m = ops.length → ∀ φ im a w, RelF C.P w0 nt φ im (envAt ops ef env0 (fun _ => true) k) (heapAt ef h0 (fun _ => true) k) a w → (∀ i, n0 + 64 * k ≤ i → φ i = none) →
      wpOps C.P ops.toArray Q (List.range' k m) a w := by
    intro m
    induction m with
    | zero =>
      intro k hk φ im a w R f
      have : k = ops.length := by omega
      subst this
      exact hQ a w φ im R f
    | succ m ih =>
      intro k hk φ im a w R f
      rw [List.range'_succ, wpOps_cons]
      have hkl : k < ops.length := by omega
      have hok : ops[k]? = some ops[k] := by simp [hkl]
      refine sOp_sound hO hok R (fun d hd => T.dst k ops[k] d hok hd) (fun id h1 h2 => f id h1) ?_ (T.step k ops[k] hok) (T.ok k hkl) fun a' w' φ' im' _ _ hnews hR' => ?_
      · intro id h1 h2
        cases hp : heapAt ef h0 (fun _ => true) k id with
        | none => rfl
        | some b =>
          exfalso
          rcases heapAt_some _ (by rw [hp]; simp) with g | ⟨m, g1, _, g3⟩
          · exact g (fh id (by omega))
          · rcases W m (by omega) id g3 with g | g
            · omega
            · have : k ≤ (id - n0) / 64 := by rw [Nat.le_div_iff_mul_le (by omega)]; omega
              omega
      · refine ih (k + 1) (by omega) φ' im' a' w' ?_ ?_
        · have e1 : envAt ops ef env0 (fun _ => true) (k + 1) = updD (envAt ops ef env0 (fun _ => true) k) ops[k].dst (ef k).val := by
            show (bif true then _ else _) = _
            simp [dstAt, hok]
          rw [e1]
          exact hR'
        · intro i hi
          cases hp : φ' i with
          | none => rfl
          | some l =>
            rcases hnews i (by rw [hp]; simp) with g | g
            · exact absurd (f i (by omega)) g
            · omega
  have := key ops.length 0 (by omega) φ im a w R (by simpa using fφ)
  simpa using this
end

/-! ### Evaluated along decisions -/
def asks (ops : List Oper) (o : Oper) : List Nat :=
  (match o.guard with
    | some (j, _) => (gdst ops j).toList
    | none => []) ++
  (match o.op with
    | .pick (.tmp c) _ _ => [c]
    | _ => [])

structure DS where
  env : AEnv
  memo : List Nat
  dec : List Bool
  ok : Bool

def fixEnv : List Nat → DS → Option DS
  | [], s => some s
  | t :: ts, s => match s.env t with
    | some (.bool b) => bif s.memo.elem t then
      (match s.dec with
      | v :: ds => fixEnv ts ⟨upd s.env t (some (.bool v)), s.memo.filter (fun u => !Nat.beq u t), ds, (bif v then b else !b) && s.ok⟩
      | [] => none) else fixEnv ts s
    | _ => fixEnv ts s

def dstOk (nt : Nat) (d : Option Nat) : Bool := match d with | some d => Nat.blt d nt | none => true

structure RS where
  env : AEnv
  heap : AHeap
  effs : List Eff
  dec : List Bool
  ok : Bool

def runD (C : Ctx) (qs : List Nat) (nt n0 : Nat) (ops : List Oper) : List Oper → Nat → AHeap → DS → Option RS
  | [], _, h, s => some ⟨s.env, h, [], s.dec, s.ok⟩
  | o :: os, k, h, s => match fixEnv (asks ops o) s with
    | some s1 => match sOp C ops s1.env h (n0 + 64 * k) o with
      | some e => bif dstOk nt o.dst then
          match runD C qs nt n0 ops os (k + 1) (updL h e.wr) ⟨updD s1.env o.dst e.val, (match o.dst with | some d => bif qs.elem d then d :: s1.memo else s1.memo | none => s1.memo), s1.dec, e.ok && s1.ok⟩ with
          | some r => some { r with effs := e :: r.effs }
          | none => none
        else none
      | none => none
    | none => none

theorem fixEnv_ok : ∀ (ts : List Nat) (s s' : DS), fixEnv ts s = some s' → s'.ok = true → s.ok = true ∧ s'.env = s.env
  | [], s, s', h, hok => by cases h; exact ⟨hok, rfl⟩
  | t :: ts, s, s', h, hok => by
    simp only [fixEnv] at h
    split at h
    · rename_i b hb
      cases hm : s.memo.elem t with
      | false => rw [hm] at h; exact fixEnv_ok ts s s' h hok
      | true =>
        rw [hm] at h
        simp only [cond_true] at h
        split at h
        · rename_i v ds hd
          obtain ⟨h1, h2⟩ := fixEnv_ok ts _ _ h hok
          simp only [Bool.and_eq_true] at h1
          refine ⟨h1.2, ?_⟩
          rw [h2]
          funext x
          show upd s.env t (some (.bool v)) x = s.env x
          by_cases hx : x = t
          · subst hx
            rw [upd_same, hb]
            have : v = b := by
              cases v
              · simpa using h1.1.symm
              · simpa using h1.1.symm
            rw [this]
          · exact upd_other _ _ _ hx
        · cases h
    · exact fixEnv_ok ts s s' h hok

theorem runD_ok {C : Ctx} {qs : List Nat} {nt n0 : Nat} {ops : List Oper} : ∀ (l : List Oper) (k : Nat) (h : AHeap) (s : DS) (r : RS), runD C qs nt n0 ops l k h s = some r → r.ok = true → (∀ j, l[j]? = ops[k + j]?) →
    s.ok = true ∧ r.effs.length = l.length ∧ ∀ (ef : Nat → Eff) (env0 : AEnv) (h0 : AHeap), (∀ j e, r.effs[j]? = some e → ef (k + j) = e) → s.env = envAt ops ef env0 (fun _ => true) k → h = heapAt ef h0 (fun _ => true) k →
      (∀ (j : Nat) (o : Oper), l[j]? = some o → sOp C ops (envAt ops ef env0 (fun _ => true) (k + j)) (heapAt ef h0 (fun _ => true) (k + j)) (n0 + 64 * (k + j)) o = some (ef (k + j)) ∧ (ef (k + j)).ok = true ∧ ∀ d, o.dst = some d → d < nt) ∧
      r.env = envAt ops ef env0 (fun _ => true) (k + l.length) ∧ r.heap = heapAt ef h0 (fun _ => true) (k + l.length)
  | [], k, h, s, r, hr, hok, _ => by
    cases hr
    exact ⟨hok, rfl, fun ef env0 h0 _ e1 e2 => ⟨fun j o hj => by simp at hj, e1, e2⟩⟩
  | o :: os, k, h, s, r, hr, hok, hops => by
    simp only [runD] at hr
    split at hr
    · rename_i s1 hs1
      split at hr
      · rename_i e he
        cases hd : dstOk nt o.dst with
        | false => rw [hd] at hr; cases hr
        | true =>
          rw [hd] at hr
          simp only [cond_true] at hr
          split at hr
          · rename_i r' hr'
            cases hr
            have hops' : ∀ j, os[j]? = ops[k + 1 + j]? := fun j => by
              have := hops (j + 1)
              rw [show k + 1 + j = k + (j + 1) by omega, ← this]; simp
            obtain ⟨g1, g2, g3⟩ := runD_ok os (k + 1) _ _ r' hr' hok hops'
            simp only [Bool.and_eq_true] at g1
            obtain ⟨f1, f2⟩ := fixEnv_ok _ _ _ hs1 g1.2
            have hk : ops[k]? = some o := by have := hops 0; simpa using this.symm
            refine ⟨f1, by simp [g2], fun ef env0 h0 hef e1 e2 => ?_⟩
            have hefk : ef k = e := by simpa using hef 0 e (by simp)
            have e1' : updD s1.env o.dst e.val = envAt ops ef env0 (fun _ => true) (k + 1) := by
              show _ = (bif true then _ else _)
              simp only [cond_true, dstAt, hk, Option.bind_some]
              rw [f2, e1, hefk]
            have e2' : updL h e.wr = heapAt ef h0 (fun _ => true) (k + 1) := by
              show _ = (bif true then _ else _)
              simp only [cond_true]
              rw [e2, hefk]
            obtain ⟨k1, k2, k3⟩ := g3 ef env0 h0 (fun j e' hj => by rw [show k + 1 + j = k + (j + 1) by omega]; exact hef (j + 1) e' (by simpa using hj)) e1' e2'
            refine ⟨fun j o' hj => ?_, ?_, ?_⟩
            · cases j with
              | zero =>
                simp only [List.getElem?_cons_zero, Option.some.injEq] at hj
                subst hj
                refine ⟨?_, ?_, fun d hdd => ?_⟩
                · rw [Nat.add_zero, ← e1, ← e2, ← f2, hefk]; exact he
                · rw [Nat.add_zero, hefk]; exact g1.1
                · rw [hdd] at hd
                  unfold dstOk at hd
                  rwa [Nat.blt_eq] at hd
              | succ j =>
                have := k1 j o' (by simpa using hj)
                rw [show k + 1 + j = k + (j + 1) by omega] at this
                exact this
            · rw [List.length_cons, show k + (os.length + 1) = k + 1 + os.length by omega]; exact k2
            · rw [List.length_cons, show k + (os.length + 1) = k + 1 + os.length by omega]; exact k3
          · cases hr
      · cases hr
    · cases hr

def Eff.foot (e : Eff) : Rec := ⟨e.wr.map (·.1), e.rd⟩

def seqB (n0 : Nat) : Nat → List Eff → Bool
  | _, [] => true
  | k, e :: es => (e.wr.all fun p => Nat.blt p.1 n0 || Nat.ble ((p.1 - n0) / 64) k) && seqB n0 (k + 1) es

theorem seqB_is {n0 : Nat} : ∀ (es : List Eff) (k : Nat), seqB n0 k es = true → ∀ (j : Nat) (e : Eff), es[j]? = some e → ∀ id, id ∈ e.wr.map (·.1) → id < n0 ∨ (id - n0) / 64 ≤ k + j
  | [], _, _, j, e, hj => by simp at hj
  | e :: es, k, h, j, e', hj => by
    simp only [seqB, Bool.and_eq_true] at h
    intro id hid
    cases j with
    | zero =>
      simp only [List.getElem?_cons_zero, Option.some.injEq] at hj
      subst hj
      rw [List.all_eq_true] at h
      obtain ⟨p, hp, rfl⟩ := List.mem_map.1 hid
      have := h.1 p hp
      simp only [Bool.or_eq_true, Nat.blt_eq, Nat.ble_eq] at this
      simpa using this
    | succ j =>
      have := seqB_is es (k + 1) h.2 j e' (by simpa using hj) id hid
      omega

/-- The state of a frame, as the evaluator holds it. -/
structure St where
  env : AEnv
  heap : AHeap
  nx : Nat
  dec : List Bool
  ok : Bool

/-- A region, evaluated. -/
def evRegion (C : Ctx) (nt : Nat) (qs : List Nat) (ops : List Oper) (draw : Bool) (s : St) : Option St :=
  match runD C qs nt s.nx ops ops 0 s.heap ⟨s.env, qs, s.dec, s.ok⟩ with
  | some r => bif (bif draw then orderF ops s.nx (r.effs.map Eff.foot) else seqB s.nx 0 r.effs) then some ⟨r.env, r.heap, s.nx + 64 * ops.length, r.dec, r.ok⟩ else none
  | none => none

/-- The frame stands to the evaluator's state. -/
structure RelS (P : Program) (w0 : World) (nt : Nat) (s : St) (a : Act) (w : World) : Prop where
  rel : ∃ φ im, RelF P w0 nt φ im s.env s.heap a w ∧ ∀ i, s.nx ≤ i → φ i = none
  fh : ∀ i, s.nx ≤ i → s.heap i = none

theorem evRegion_sound {C : Ctx} (hO : OrcOK C.P C.orc) (hm : C.P.follows .mixedOrders = true) {w0 : World} {nt : Nat} {qs : List Nat} {ops : List Oper} {draw : Bool} {s s' : St} (hev : evRegion C nt qs ops draw s = some s') (hok : s'.ok = true) :
    s.ok = true ∧ ∀ {a : Act} {w : World}, RelS C.P w0 nt s a w → ∀ {id : Nat} {Q : Exit → Act → World → Prop}, (∀ a' w', RelS C.P w0 nt s' a' w' → Q .normal a' w') → (Code.region id ops.toArray draw).wp C.P Q a w := by
  unfold evRegion at hev
  split at hev
  · rename_i r hr
    cases hc : (bif draw then orderF ops s.nx (r.effs.map Eff.foot) else seqB s.nx 0 r.effs) with
    | false => rw [hc] at hev; cases hev
    | true =>
      rw [hc] at hev
      cases hev
      obtain ⟨g1, g2, g3⟩ := runD_ok ops 0 _ _ r hr hok (fun j => by simp)
      refine ⟨g1, fun {a w} R {id Q} hQ => ?_⟩
      obtain ⟨⟨φ, im, RF, fφ⟩, fh⟩ := R
      obtain ⟨k1, k2, k3⟩ := g3 (fun j => r.effs.getD j skipE) s.env s.heap (fun j e hj => by simp [hj]) rfl rfl
      simp only [Nat.zero_add] at k1 k2 k3
      have T : Text C ops (fun j => r.effs.getD j skipE) s.env s.heap nt s.nx :=
        ⟨fun k o ho => (k1 k o ho).1, fun k hk => (k1 k ops[k] (by simp [hk])).2.1, fun k o d ho hd => (k1 k o ho).2.2 d hd⟩
      have heffs : ∀ k, k < ops.length → r.effs[k]? = some (r.effs.getD k skipE) := fun k hk => by
        have : k < r.effs.length := by rw [g2]; exact hk
        simp [this]
      have hwr : ∀ j, j < ops.length → ∀ id, id ∈ (r.effs.getD j skipE).wr.map (·.1) → id < s.nx ∨ (id - s.nx) / 64 ≤ j := by
        cases draw with
        | false =>
          intro j hj id hid
          have := seqB_is r.effs 0 (by simpa using hc) j _ (heffs j hj) id hid
          simpa using this
        | true =>
          intro j hj id hid
          have O := ordered_of (ops := ops) (ef := fun j => r.effs.getD j skipE) (n0 := s.nx) (rs := r.effs.map Eff.foot) (fun k hk => by rw [List.getElem?_map, heffs k hk]; rfl) (orderF_is (by simpa using hc))
          have hwn := O.win j hj id (.inr hid)
          unfold winB at hwn
          simp only [Bool.or_eq_true, Nat.blt_eq] at hwn
          rcases hwn with g | g | g
          · exact .inl g
          · exact .inr (Nat.le_of_eq (Nat.eq_of_beq_eq_true g))
          · right
            have := masks_bit (S := fun k => k ≤ j) ops [] (fun k o ho hk e he hb => by
              have := O.back k o ho e he hb
              simp only [List.length_nil, Nat.zero_add] at hk
              omega) (fun k i _ hk => by simp at hk) j ((id - s.nx) / 64) (Nat.le_refl _) g
            exact this
      have fin : ∀ a' w' φ' im', RelF C.P w0 nt φ' im' (envAt ops (fun j => r.effs.getD j skipE) s.env (fun _ => true) ops.length) (heapAt (fun j => r.effs.getD j skipE) s.heap (fun _ => true) ops.length) a' w' →
          (∀ i, s.nx + 64 * ops.length ≤ i → φ' i = none) → Q .normal a' w' := by
        intro a' w' φ' im' hR hF
        refine hQ a' w' ⟨⟨φ', im', ?_, hF⟩, ?_⟩
        · rw [← k2, ← k3] at hR; exact hR
        · intro i hi
          show r.heap i = none
          have hi' : s.nx + 64 * ops.length ≤ i := hi
          rw [k3]
          cases hp : heapAt (fun j => r.effs.getD j skipE) s.heap (fun _ => true) ops.length i with
          | none => rfl
          | some b =>
            exfalso
            rcases heapAt_some _ (by rw [hp]; simp) with g | ⟨m, q1, _, q3⟩
            · exact g (fh i (by omega))
            · rcases hwr m q1 i q3 with g | g
              · omega
              · have : ops.length ≤ (i - s.nx) / 64 := by rw [Nat.le_div_iff_mul_le (by omega)]; omega
                omega
      cases draw with
      | false => exact region_seq hO T hwr RF fφ fh fin
      | true =>
        have O := ordered_of (ops := ops) (ef := fun j => r.effs.getD j skipE) (n0 := s.nx) (rs := r.effs.map Eff.foot) (fun k hk => by rw [List.getElem?_map, heffs k hk]; rfl) (orderF_is (by simpa using hc))
        exact region_draw hO hm T O RF fφ fh fin
  · cases hev
end Go.Eng
/- Engine, part 20: code evaluated along decisions; a function's contract out of its evaluation. Condition: the contracts that the evaluator leans on hold, the decisions are what the tests say. -/
namespace Go.Eng
open Go Go.RowKit

inductive Ex where
  | normal | exit (id : Nat) | ret

def Ex.toExit : Ex → Exit
  | .normal => .normal
  | .exit id => .exit id
  | .ret => .ret

def iterC (f : St → Option (Ex × St)) : Nat → St → Option (Ex × St)
  | 0, _ => none
  | n + 1, s => match f s with
    | some (.normal, s1) => iterC f n s1
    | r => r

def litB (qs : List Nat) : Operand → Bool
  | .tmp t => !qs.elem t
  | _ => true

def evCode (C : Ctx) (nt : Nat) (qs : List Nat) (n : Nat) : Code → St → Option (Ex × St)
  | .skip, s => some (.normal, s)
  | .region _ ops draw, s => match evRegion C nt qs ops.toList draw s with
    | some s1 => some (.normal, s1)
    | none => none
  | .seq a b, s => match evCode C nt qs n a s with
    | some (.normal, s1) => evCode C nt qs n b s1
    | r => r
  | .cond c x y, s => match opd s.env c with
    | some (.bool b) => bif litB qs c then (bif b then evCode C nt qs n x s else evCode C nt qs n y s) else
      match s.dec with
      | v :: ds => bif v then evCode C nt qs n x ⟨s.env, s.heap, s.nx, ds, b && s.ok⟩ else evCode C nt qs n y ⟨s.env, s.heap, s.nx, ds, !b && s.ok⟩
      | [] => none
    | _ => none
  | .block id body, s => match evCode C nt qs n body s with
    | some (.exit j, s1) => bif Nat.beq j id then some (.normal, s1) else some (.exit j, s1)
    | r => r
  | .loop body, s => iterC (evCode C nt qs n body) n s
  | .exit id, s => some (.exit id, s)
  | .ret, s => some (.ret, s)
  | _, _ => none

section
variable {C : Ctx} {w0 : World} {nt : Nat} {qs : List Nat} {n : Nat}

/-- Code, run from where the evaluator stands, ends where the evaluator ends. -/
structure Goes (C : Ctx) (w0 : World) (nt : Nat) (c : Code) (s : St) (e : Ex) (s' : St) : Prop where
  of : ∀ {a : Act} {w : World}, RelS C.P w0 nt s a w → c.wp C.P (fun x a' w' => x = e.toExit ∧ RelS C.P w0 nt s' a' w') a w

theorem iterC_sound {c : Code} {f : St → Option (Ex × St)} (hf : ∀ s e s', f s = some (e, s') → s'.ok = true → s.ok = true ∧ Goes C w0 nt c s e s') : ∀ (m : Nat) (s s' : St) (e : Ex), iterC f m s = some (e, s') → s'.ok = true →
    s.ok = true ∧ e ≠ .normal ∧ ∀ {a : Act} {w : World}, RelS C.P w0 nt s a w → Code.rounds C.P c (fun x a' w' => x = e.toExit ∧ RelS C.P w0 nt s' a' w') m a w
  | 0, _, _, _, h, _ => by cases h
  | m + 1, s, s', e, h, hok => by
    simp only [iterC] at h
    split at h
    · rename_i s1 h1
      obtain ⟨g1, g2, g3⟩ := iterC_sound hf m s1 s' e h hok
      obtain ⟨k1, k2⟩ := hf s _ s1 h1 g1
      refine ⟨k1, g2, fun {a w} R => ?_⟩
      rw [rounds_succ]
      refine Go.wp_mono (k2.of R) fun x a' w' ⟨hx, hR⟩ => ?_
      subst hx
      exact g3 hR
    · rename_i r hr
      obtain ⟨k1, k2⟩ := hf s e s' h hok
      have hne : e ≠ .normal := fun h' => by subst h'; exact hr s' h
      refine ⟨k1, hne, fun {a w} R => ?_⟩
      rw [rounds_succ]
      refine Go.wp_mono (k2.of R) fun x a' w' ⟨hx, hR⟩ => ?_
      subst hx
      cases e with
      | normal => exact absurd rfl hne
      | exit id => exact ⟨rfl, hR⟩
      | ret => exact ⟨rfl, hR⟩

theorem evCode_sound (hO : OrcOK C.P C.orc) (hm : C.P.follows .mixedOrders = true) : ∀ (c : Code) (s s' : St) (e : Ex), evCode C nt qs n c s = some (e, s') → s'.ok = true → s.ok = true ∧ Goes C w0 nt c s e s' := by
  intro c
  induction c with
  | skip =>
    intro s s' e h hok
    cases h
    exact ⟨hok, ⟨fun R => wp_skip ⟨rfl, R⟩⟩⟩
  | region id ops draw =>
    intro s s' e h hok
    simp only [evCode] at h
    split at h
    · rename_i s1 h1
      cases h
      obtain ⟨g1, g2⟩ := evRegion_sound hO hm h1 hok (w0 := w0)
      refine ⟨g1, ⟨fun {a w} R => ?_⟩⟩
      have := g2 R (id := id) (Q := fun x a' w' => x = Ex.normal.toExit ∧ RelS C.P w0 nt s' a' w') fun a' w' hR => ⟨rfl, hR⟩
      simpa using this
    · cases h
  | seq x y ihx ihy =>
    intro s s' e h hok
    simp only [evCode] at h
    split at h
    · rename_i s1 h1
      obtain ⟨g1, g2⟩ := ihy s1 s' e h hok
      obtain ⟨k1, k2⟩ := ihx s s1 _ h1 g1
      refine ⟨k1, ⟨fun {a w} R => wp_seq (Go.wp_mono (k2.of R) fun z a' w' ⟨hz, hR⟩ => ?_)⟩⟩
      subst hz
      exact g2.of hR
    · rename_i r hr
      obtain ⟨k1, k2⟩ := ihx s s' e h hok
      have hne : e ≠ .normal := fun h' => by subst h'; exact hr s' h
      refine ⟨k1, ⟨fun {a w} R => wp_seq (Go.wp_mono (k2.of R) fun z a' w' ⟨hz, hR⟩ => ?_)⟩⟩
      subst hz
      cases e with
      | normal => exact absurd rfl hne
      | exit id => exact ⟨rfl, hR⟩
      | ret => exact ⟨rfl, hR⟩
  | cond c x y ihx ihy =>
    intro s s' e h hok
    simp only [evCode] at h
    split at h
    · rename_i b hb
      have hc : ∀ {a : Act} {w : World}, RelS C.P w0 nt s a w → a.eval c = .bool b := by
        intro a w R
        obtain ⟨⟨φ, im, RF, _⟩, _⟩ := R
        have := opd_V RF.rho hb
        generalize a.eval c = v at this
        cases this
        rfl
      cases hl : litB qs c with
      | true =>
        rw [hl] at h
        cases b with
        | true =>
          obtain ⟨g1, g2⟩ := ihx s s' e h hok
          exact ⟨g1, ⟨fun R => wp_cond_true (hc R) (g2.of R)⟩⟩
        | false =>
          obtain ⟨g1, g2⟩ := ihy s s' e h hok
          exact ⟨g1, ⟨fun R => wp_cond_false (hc R) (g2.of R)⟩⟩
      | false =>
        rw [hl] at h
        simp only [cond_false] at h
        split at h
        · rename_i v ds hd
          cases v with
          | true =>
            obtain ⟨g1, g2⟩ := ihx _ s' e h hok
            simp only [Bool.and_eq_true] at g1
            refine ⟨g1.2, ⟨fun {a w} R => wp_cond_true (by rw [hc R, g1.1]) (g2.of ⟨R.rel, R.fh⟩)⟩⟩
          | false =>
            obtain ⟨g1, g2⟩ := ihy _ s' e h hok
            simp only [Bool.and_eq_true] at g1
            have hbf : b = false := by simpa using g1.1
            refine ⟨g1.2, ⟨fun {a w} R => wp_cond_false (by rw [hc R, hbf]) (g2.of ⟨R.rel, R.fh⟩)⟩⟩
        · cases h
    · cases h
  | block id body ih =>
    intro s s' e h hok
    simp only [evCode] at h
    split at h
    · rename_i j s1 h1
      cases hj : Nat.beq j id with
      | true =>
        rw [hj] at h
        cases h
        obtain ⟨g1, g2⟩ := ih s s' _ h1 hok
        refine ⟨g1, ⟨fun {a w} R => wp_block (Go.wp_mono (g2.of R) fun z a' w' ⟨hz, hR⟩ => ?_)⟩⟩
        subst hz
        have : j = id := Nat.eq_of_beq_eq_true hj
        subst this
        simp only [Ex.toExit, Exit.inBlock, if_true]
        exact ⟨trivial, hR⟩
      | false =>
        rw [hj] at h
        cases h
        obtain ⟨g1, g2⟩ := ih s s' _ h1 hok
        refine ⟨g1, ⟨fun {a w} R => wp_block (Go.wp_mono (g2.of R) fun z a' w' ⟨hz, hR⟩ => ?_)⟩⟩
        subst hz
        have : j ≠ id := fun e => by subst e; simp at hj
        simp only [Ex.toExit, Exit.inBlock, if_neg this]
        exact ⟨trivial, hR⟩
    · rename_i r hr
      obtain ⟨g1, g2⟩ := ih s s' e h hok
      refine ⟨g1, ⟨fun {a w} R => wp_block (Go.wp_mono (g2.of R) fun z a' w' ⟨hz, hR⟩ => ?_)⟩⟩
      subst hz
      cases e with
      | exit j => exact absurd h (hr j s')
      | normal => exact ⟨rfl, hR⟩
      | ret => exact ⟨rfl, hR⟩
  | loop body ih =>
    intro s s' e h hok
    simp only [evCode] at h
    obtain ⟨g1, _, g3⟩ := iterC_sound (fun s e s' h hok => ih s s' e h hok) n s s' e h hok
    exact ⟨g1, ⟨fun R => wp_loop_rounds n (g3 R)⟩⟩
  | exit id =>
    intro s s' e h hok
    cases h
    exact ⟨hok, ⟨fun R => wp_exit ⟨rfl, R⟩⟩⟩
  | ret =>
    intro s s' e h hok
    cases h
    exact ⟨hok, ⟨fun R => wp_ret ⟨rfl, R⟩⟩⟩
  | _ => intro s s' e h hok; cases h
end

/-! ### A function's answer -/
def argsEnv (xs : List AV) : AEnv := fun t => xs[t]?

def St0 (xs : List AV) (dec : List Bool) : St := ⟨argsEnv xs, fun _ => none, 0, dec, true⟩

def AV.scal : AV → Bool
  | .undef | .bool _ | .int _ _ | .flt _ | .str _ | .nilp | .nils | .nilfn | .nilif => true
  | _ => false

/-- What is handed back, as who asked sees it: slices of one's own by what they hold. -/
def out1 (h : AHeap) : AV → Option (AV × Bool)
  | .slc i off len => match h i with
    | some b => some (.snap (b.cells.drop off) len, b.cells.all AV.scal)
    | none => none
  | .nils => some (.snap [] 0, true)
  | .agg cs => some (.agg cs, cs.all AV.scal)
  | .bool b => some (.bool b, true)
  | .int k n => some (.int k n, true)
  | .flt x => some (.flt x, true)
  | .str s => some (.str s, true)
  | .fn f [] [] => some (.fn f [] [], true)
  | _ => none

def resVar (P : Program) (s : St) : ResultVar → Option (AV × Bool)
  | .tmp t => match s.env t with
    | some x => some (x, true)
    | none => none
  | .cell a t => match s.env a with
    | some (.ptr i off) => match s.heap i with
      | some b => loadV P false t b.cells off
      | none => none
    | _ => none

def resVars (P : Program) (s : St) : List ResultVar → Option (List AV × Bool)
  | [] => some ([], true)
  | r :: rs => match resVar P s r, resVars P s rs with
    | some (x, c), some (xs, cs) => some (x :: xs, c && cs)
    | _, _ => none

def one : List AV → AV
  | [x] => x
  | xs => .tup xs

def outs (h : AHeap) : List AV → Option (List AV × Bool)
  | [] => some ([], true)
  | x :: xs => match out1 h x, outs h xs with
    | some (y, c), some (ys, cs) => some (y :: ys, c && cs)
    | _, _ => none

/-- A function, evaluated: its answer, and what must hold. -/
def evFn (C : Ctx) (nt : Nat) (qs : List Nat) (fuel : Nat) (c : Code) (rs : List ResultVar) (xs : List AV) (dec : List Bool) : Option (AV × Bool) :=
  match evCode C nt qs fuel c (St0 xs dec) with
  | some (.exit _, _) => none
  | some (_, s) => match resVars C.P s rs with
    | some (ys, c1) => match outs s.heap ys with
      | some (zs, c2) => some (one zs, c1 && c2 && s.ok)
      | none => none
    | none => none
  | none => none

end Go.Eng
/- Engine, part 21: a function's contract out of its evaluation. Condition: the contracts that the evaluator leans on hold, the decisions are what the tests say. -/
namespace Go.Eng
open Go Go.RowKit

def freshIm (base : Nat) (w : World) : Im := fun b => if b < base then none else imOf w b

section
variable {P : Program} {base : Nat} {φ : Phi} {im : Im} {h : AHeap} {w : World}

theorem scal_V {φ' : Phi} {im' : Im} {x : AV} {v : Value} (hx : V im φ x v) (hs : x.scal = true) : V im' φ' x v := by
  cases hx <;> first | (simp [AV.scal] at hs; done) | skip
  all_goals constructor <;> assumption

theorem scals_V {φ' : Phi} {im' : Im} : ∀ {xs : List AV} {vs : List Value}, VL im φ xs vs → xs.all AV.scal = true → VL im' φ' xs vs
  | _, _, .nil _, _ => .nil _
  | _, _, .cons _ x v xs vs h hs, hn => by
    simp only [List.all_cons, Bool.and_eq_true] at hn
    exact .cons _ _ _ _ _ (scal_V h hn.1) (scals_V hs hn.2)

theorem out1_sound (H : HRep P base φ im h w) {x y : AV} {c : Bool} {v : Value} (ho : out1 h x = some (y, c)) (hc : c = true) (hx : V im φ x v) : V (freshIm base w) (fun _ => none) y v := by
  subst hc
  unfold out1 at ho
  split at ho
  · rename_i i off len
    split at ho
    · rename_i b hb
      simp only [Option.some.injEq, Prod.mk.injEq] at ho
      obtain ⟨e1, e2⟩ := ho
      subst e1
      cases hx with
      | slc0 => exact .snape _ _ _ _
      | slc _ _ _ _ cap l hl hle hcap =>
        rcases H.own i b hb with ⟨a1, _⟩ | ⟨l', cs, a1, a2, a3, a4, a5, a6, a7⟩
        · rw [hl] at a1; cases a1
        rw [hl] at a1
        cases a1
        refine .snap _ _ _ l.blk off cap cs ((cs.toList.take b.cells.length).drop off) ?_ ?_ ((scals_V a7 e2).drop off) hle
        · unfold freshIm
          rw [if_neg (by omega)]
          exact imOf_of a2
        · rw [List.length_drop, List.drop_take]
    · cases ho
  · cases ho; cases hx; exact .snape _ _ _ _
  · simp only [Option.some.injEq, Prod.mk.injEq] at ho
    obtain ⟨e1, e2⟩ := ho
    subst e1
    cases hx with
    | agg _ _ cs' hv => exact .agg _ _ _ (scals_V hv e2)
  · cases ho; exact scal_V hx rfl
  · cases ho; exact scal_V hx rfl
  · cases ho; exact scal_V hx rfl
  · cases ho; exact scal_V hx rfl
  · cases ho
    exact (noOwn_V hx rfl : V im (fun _ => none) _ _) |> fun hh => by
      cases hh with
      | fn _ _ _ _ a' c' ha hc =>
        have e1 : a'.toList = [] := List.eq_nil_of_length_eq_zero (by rw [← ha.length]; rfl)
        have e2 : c'.toList = [] := List.eq_nil_of_length_eq_zero (by rw [← hc.length]; rfl)
        exact .fn _ _ [] [] a' c' (by rw [e1]; exact .nil _) (by rw [e2]; exact .nil _)
  · cases ho

theorem outs_sound (H : HRep P base φ im h w) : ∀ {xs ys : List AV} {c : Bool} {vs : List Value}, outs h xs = some (ys, c) → c = true → VL im φ xs vs → VL (freshIm base w) (fun _ => none) ys vs
  | [], ys, c, vs, ho, _, hv => by
    simp only [outs, Option.some.injEq, Prod.mk.injEq] at ho
    rw [← ho.1]
    cases hv
    exact .nil _
  | x :: xs, ys, c, vs, ho, hc, hv => by
    simp only [outs] at ho
    split at ho
    · rename_i y c1 ys' cs h1 h2
      cases ho
      simp only [Bool.and_eq_true] at hc
      cases hv with
      | cons _ _ v _ vs' hv1 hv2 => exact .cons _ _ _ _ _ (out1_sound H h1 hc.1 hv1) (outs_sound H h2 hc.2 hv2)
    · cases ho
end

section
variable {P : Program} {w0 : World} {nt : Nat}

def readRes (a : Act) : ResultVar → Sem Value
  | .tmp t => pure (a.tmps.getD t undef)
  | .cell b t => do loadVar t (← asAddr (a.tmps.getD b undef))

theorem resVar_sound {s : St} {a : Act} {w : World} {φ : Phi} {im : Im} (RF : RelF P w0 nt φ im s.env s.heap a w) {r : ResultVar} {x : AV} {c : Bool} (hr : resVar P s r = some (x, c)) (hc : c = true) :
    ∃ v, (readRes a r).run P w = .ok v w ∧ V im φ x v := by
  subst hc
  unfold resVar at hr
  unfold readRes
  cases r with
  | tmp t =>
    dsimp only at hr ⊢
    cases he : s.env t with
    | none => rw [he] at hr; cases hr
    | some y =>
      rw [he] at hr
      cases hr
      exact ⟨_, rfl, RF.rho t _ he⟩
  | cell b t =>
    dsimp only at hr ⊢
    split at hr
    · rename_i i off he
      split at hr
      · rename_i k hk
        have hp := RF.rho b _ he
        generalize a.tmps.getD b undef = pv at hp
        cases hp with
        | ptr _ _ _ l hl =>
          rcases RF.hrep.own i k hk with ⟨a1, _⟩ | ⟨l', cs, a1, a2, a3, a4, a5, a6, a7⟩
          · rw [hl] at a1; cases a1
          rw [hl] at a1
          cases a1
          obtain ⟨v, h1, h2⟩ := loadVar_exact (P := P) (w := w) hr rfl a7 l.blk 0 (fun j u hj => by
            rw [List.getElem?_take] at hj
            split at hj
            · rw [Nat.zero_add]
              unfold World.cell?
              simp only [a2, Option.isSome_none, Bool.false_eq_true, if_false]
              simpa using hj
            · cases hj)
          rw [Nat.zero_add] at h1
          exact ⟨v, by simp [asAddr, h1], h2⟩
      · cases hr
    · cases hr

theorem resVars_sound {s : St} {a : Act} {w : World} {φ : Phi} {im : Im} (RF : RelF P w0 nt φ im s.env s.heap a w) : ∀ {rs : List ResultVar} {xs : List AV} {c : Bool}, resVars P s rs = some (xs, c) → c = true →
    ∃ vs, (rs.mapM (readRes a)).run P w = .ok vs w ∧ VL im φ xs vs
  | [], xs, c, h, hc => by
    simp only [resVars, Option.some.injEq, Prod.mk.injEq] at h
    rw [← h.1]
    exact ⟨[], by simp, .nil _⟩
  | r :: rs, xs, c, h, hc => by
    simp only [resVars] at h
    split at h
    · rename_i x c1 xs' c2 h1 h2
      cases h
      simp only [Bool.and_eq_true] at hc
      obtain ⟨v, g1, g2⟩ := resVar_sound RF h1 hc.1
      obtain ⟨vs, g3, g4⟩ := resVars_sound RF h2 hc.2
      refine ⟨v :: vs, ?_, .cons _ _ _ _ _ g2 g4⟩
      rw [List.mapM_cons]
      simp only [Sem.run_bind, g1, Result.andThen_ok, g3, Sem.run_pure]
    · cases h

theorem one_sound {im : Im} {φ : Phi} {xs : List AV} {A : Array Value} (h : VL im φ xs A.toList) : V im φ (one xs) (if h : A.size = 1 then A[0] else .tuple A) := by
  have hl := h.length
  unfold one
  split
  · rename_i x
    have hs : A.size = 1 := by simpa using hl.symm
    rw [dif_pos hs]
    obtain ⟨v, h1, h2⟩ := h.get 0 x rfl
    have : A[0] = v := by
      have h3 : A[0]? = some v := by simpa using h1
      rw [Array.getElem?_eq_getElem (by omega)] at h3
      exact Option.some.inj h3
    rw [this]
    exact h2
  · rename_i hne
    have hs : ¬ A.size = 1 := fun e => by
      have : xs.length = 1 := by rw [hl]; simpa using e
      obtain ⟨x, rfl⟩ := List.length_eq_one_iff.1 this
      exact hne x rfl
    rw [dif_neg hs]
    exact .tup _ _ _ h

theorem run_callFunc {f : FuncId} {fn : Func} {c : Code} (hf : P.funcs[f]? = some fn) (hb : fn.body = some c) (hname : (fn.name == "runtime.NumGoroutine") = false) (args : Array Value) (w : World) : (callFunc f args).run P w = .ok (.enter f args) w := by
  have hn : ¬ fn.name = "runtime.NumGoroutine" := by simpa using hname
  unfold callFunc
  simp [program, Sem.run, hf, hb, hn]
end

section
variable {C : Ctx} {nt : Nat} {qs : List Nat} {fuel : Nat}

/-- Where a call begins. -/
theorem rel_start {im : Im} {w : World} {args : Array Value} {xs : List AV} (him : ∀ b cs, im b = some cs → ∃ e g, w.heap[b]? = some (.cells cs e g)) (hv : VL im (fun _ => none) xs args.toList) (hl : xs.length ≤ nt) (dec : List Bool) :
    RelS C.P w nt (St0 xs dec) { tmps := args ++ Array.replicate (nt - args.size) undef, defers := [] } w := by
  have hlen : xs.length = args.size := by simpa using hv.length
  refine ⟨⟨fun _ => none, im, ⟨⟨him, (fun i k e => by cases e), (fun i j k k' l l' e => by cases e)⟩, ?_, (by simp; omega), rfl, Below.refl _ _⟩, fun _ _ => rfl⟩, fun _ _ => rfl⟩
  intro t x e
  obtain ⟨v, h1, h2⟩ := hv.get t x e
  refine ⟨v, ?_, h2⟩
  have ht : t < args.size := by
    have := (List.getElem?_eq_some_iff.1 e).1
    omega
  show (args ++ Array.replicate (nt - args.size) undef)[t]? = some v
  rw [Array.getElem?_append_left ht]
  simpa using h1

theorem con_of (hO : OrcOK C.P C.orc) (hm : C.P.follows .mixedOrders = true) {f : FuncId} {fn : Func} {c : Code} (hf : C.P.funcs[f]? = some fn) (hb : fn.body = some c) (hname : (fn.name == "runtime.NumGoroutine") = false) (hnt : fn.ntmps = nt)
    {xs : List AV} (hl : xs.length ≤ nt) {dec : List Bool} {r : AV} {ok : Bool} (hev : evFn C nt qs fuel c fn.results.toList xs dec = some (r, ok)) (hok : ok = true) (n : Nat) : Con C.P f xs n r [] := by
  intro im w args him hv
  refine ⟨_, _, run_callFunc hf hb hname args w, .inr ⟨f, args, rfl, ?_⟩⟩
  have hstart := rel_start (C := C) him hv hl dec
  subst hok
  have main : ∀ (e : Ex) (s : St), evCode C nt qs fuel c (St0 xs dec) = some (e, s) → (e = .ret ∨ e = .normal) → (match resVars C.P s fn.results.toList with
      | some (ys, c1) => match outs s.heap ys with
        | some (zs, c2) => some (one zs, c1 && c2 && s.ok)
        | none => none
      | none => none) = some (r, true) → Calls C.P f args w fun e w' => ∃ v, e = .returned v ∧ Leaves C.P w n r [] v w' := by
    intro e s he hre hs
    split at hs
    · rename_i ys c1 hys
      split at hs
      · rename_i zs c2 hzs
        simp only [Option.some.injEq, Prod.mk.injEq, Bool.and_eq_true] at hs
        obtain ⟨hr, ⟨hc1, hc2⟩, hsok⟩ := hs
        obtain ⟨_, hgo⟩ := evCode_sound (w0 := w) hO hm c _ s e he hsok
        refine calls_of_wp hf hb ?_
        rw [hnt]
        refine Go.wp_mono (hgo.of hstart) fun x a' w' ⟨hx, hR⟩ => ?_
        obtain ⟨⟨φ, im', RF, _⟩, _⟩ := hR
        obtain ⟨vs, g1, g2⟩ := resVars_sound RF hys hc1
        have g3 := outs_sound RF.hrep hzs hc2 g2
        have hres : (results fn a'.tmps).run C.P w' = .ok (if h : vs.toArray.size = 1 then vs.toArray[0] else .tuple vs.toArray) w' := by
          have e : results fn a'.tmps = (do
            let vs ← fn.results.mapM (readRes a')
            return if h : vs.size = 1 then vs[0] else .tuple vs) := by
            unfold results
            congr 1
          rw [e, Array.mapM_eq_mapM_toList]
          simp only [Sem.run_bind, bind_map_left]
          rw [g1]
          rfl
        have hpost : ∃ v, (if h : vs.toArray.size = 1 then vs.toArray[0] else .tuple vs.toArray : Value) = v ∧ Leaves C.P w n r [] v w' := by
          refine ⟨_, rfl, fun _ => none, freshIm w.heap.size w', RF.below, fun i hi => absurd rfl hi, ?_, ?_, ?_⟩
          · intro b cs hb
            unfold freshIm at hb
            split at hb
            · cases hb
            · omega
          · refine ⟨?_, fun i k e => (by cases e), fun i j k k' l l' e => (by cases e)⟩
            intro b cs hb
            unfold freshIm at hb
            split at hb
            · cases hb
            · exact imOf_is hb
          · rw [← hr]
            exact one_sound (by simpa using g3)
        obtain ⟨v, hv1, hv2⟩ := hpost
        rcases hre with rfl | rfl
        · subst hx
          exact ⟨RF.defers, v, by rw [hres, hv1], v, rfl, hv2⟩
        · subst hx
          exact ⟨RF.defers, v, by rw [hres, hv1], v, rfl, hv2⟩
      · cases hs
    · cases hs
  unfold evFn at hev
  split at hev
  · cases hev
  · rename_i e s hne he
    refine main e s he ?_ hev
    cases e with
    | ret => exact .inl rfl
    | normal => exact .inr rfl
    | exit j => exact absurd rfl (hne j)
  · cases hev
end
end Go.Eng
/- Engine, part 22: a function that hands over memory of its own: its contract out of its evaluation. Condition: the contracts that the evaluator leans on hold, the decisions are what the tests say. -/
namespace Go.Eng
open Go Go.RowKit

/-! ### Blocks under new numbers -/
def idxOf : List Nat → Nat → Nat → Option Nat
  | [], _, _ => none
  | j :: js, n, i => bif Nat.beq j i then some n else idxOf js (n + 1) i

mutual
def ren (kp : Bool) (ids : List Nat) (n : Nat) : Nat → AV → Option AV
  | 0, _ => none
  | _ + 1, .ptr i off => match idxOf ids n i with
    | some j => some (.ptr j off)
    | none => none
  | _ + 1, .slc i off len => match idxOf ids n i with
    | some j => some (.slc j off len)
    | none => none
  | _ + 1, .snap c l => bif kp then some (.snap c l) else none
  | _ + 1, .sptr c o => bif kp then some (.sptr c o) else none
  | d + 1, .fn f a c => match renL kp ids n d a, renL kp ids n d c with
    | some a, some c => some (.fn f a c)
    | _, _ => none
  | d + 1, .agg cs => match renL kp ids n d cs with
    | some cs => some (.agg cs)
    | none => none
  | d + 1, .tup cs => match renL kp ids n d cs with
    | some cs => some (.tup cs)
    | none => none
  | _ + 1, x => some x
def renL (kp : Bool) (ids : List Nat) (n : Nat) : Nat → List AV → Option (List AV)
  | 0, _ => none
  | _ + 1, [] => some []
  | d + 1, x :: xs => match ren kp ids n d x, renL kp ids n d xs with
    | some y, some ys => some (y :: ys)
    | _, _ => none
end

def renPhi (ids : List Nat) (n : Nat) (φ : Phi) : Phi := fun j => if n ≤ j then (ids[j - n]?).bind φ else none

theorem idxOf_is : ∀ {ids : List Nat} {n i j : Nat}, idxOf ids n i = some j → n ≤ j ∧ ids[j - n]? = some i
  | [], _, _, _, h => by cases h
  | k :: ks, n, i, j, h => by
    simp only [idxOf] at h
    cases hb : Nat.beq k i with
    | true =>
      rw [hb] at h
      cases h
      have := Nat.eq_of_beq_eq_true hb
      subst this
      simp
    | false =>
      rw [hb] at h
      obtain ⟨h1, h2⟩ := idxOf_is h
      refine ⟨by omega, ?_⟩
      rw [show j - n = (j - (n + 1)) + 1 by omega]
      simpa using h2

section
variable {ids : List Nat} {n : Nat} {φ : Phi} {im im' : Im} {kp : Bool}

theorem renPhi_of {i j : Nat} (h : idxOf ids n i = some j) : renPhi ids n φ j = φ i := by
  obtain ⟨h1, h2⟩ := idxOf_is h
  unfold renPhi
  rw [if_pos h1, h2]
  rfl

mutual
theorem ren_V (hk : kp = true → Im.le im im') : ∀ {d : Nat} {x y : AV} {v : Value}, ren kp ids n d x = some y → V im φ x v → V im' (renPhi ids n φ) y v
  | 0, _, _, _, h, _ => by simp [ren] at h
  | d + 1, .undef, _, _, h, hx => by simp only [ren] at h; cases h; cases hx; exact .undef _
  | d + 1, .bool _, _, _, h, hx => by simp only [ren] at h; cases h; cases hx; exact .bool _ _
  | d + 1, .int _ _, _, _, h, hx => by simp only [ren] at h; cases h; cases hx; exact .int _ _ _
  | d + 1, .flt _, _, _, h, hx => by simp only [ren] at h; cases h; cases hx; exact .flt _ _ (by assumption)
  | d + 1, .str _, _, _, h, hx => by simp only [ren] at h; cases h; cases hx; exact .str _ _
  | d + 1, .nilp, _, _, h, hx => by simp only [ren] at h; cases h; cases hx; exact .nilp _
  | d + 1, .nils, _, _, h, hx => by simp only [ren] at h; cases h; cases hx; exact .nils _
  | d + 1, .nilfn, _, _, h, hx => by simp only [ren] at h; cases h; cases hx; exact .nilfn _
  | d + 1, .nilif, _, _, h, hx => by simp only [ren] at h; cases h; cases hx; exact .nilif _
  | d + 1, .snap _ _, _, _, h, hx => by
    simp only [ren] at h
    cases hkp : kp with
    | false => rw [hkp] at h; cases h
    | true =>
      rw [hkp] at h
      cases h
      cases hx with
      | snap _ _ _ b o cap cs vs him hvs hl hle => exact .snap _ _ _ b o cap cs vs (hk hkp _ _ him) hvs (hl.mono (fun _ _ e => e) (hk hkp)) hle
      | snape => exact .snape _ _ _ _
  | d + 1, .sptr _ _, _, _, h, hx => by
    simp only [ren] at h
    cases hkp : kp with
    | false => rw [hkp] at h; cases h
    | true =>
      rw [hkp] at h
      cases h
      cases hx with
      | sptr _ _ _ b o cs vs him hvs hl => exact .sptr _ _ _ b o cs vs (hk hkp _ _ him) hvs (hl.mono (fun _ _ e => e) (hk hkp))
  | d + 1, .ptr i off, _, _, h, hx => by
    simp only [ren] at h
    split at h
    · rename_i j hj
      cases h
      cases hx with
      | ptr _ _ _ l hl => exact .ptr _ _ _ l (by rw [renPhi_of hj]; exact hl)
    · cases h
  | d + 1, .slc i off len, _, _, h, hx => by
    simp only [ren] at h
    split at h
    · rename_i j hj
      cases h
      cases hx with
      | slc _ _ _ _ cap l hl a b => exact .slc _ _ _ _ cap l (by rw [renPhi_of hj]; exact hl) a b
      | slc0 => exact .slc0 _ _ _
    · cases h
  | d + 1, .fn f a c, _, _, h, hx => by
    simp only [ren] at h
    split at h
    · rename_i a1 c1 h1 h2
      cases h
      cases hx with
      | fn _ _ _ _ a' c' ha hc => exact .fn _ _ _ _ a' c' (renL_V hk h1 ha) (renL_V hk h2 hc)
    · cases h
  | d + 1, .agg cs, _, _, h, hx => by
    simp only [ren] at h
    split at h
    · rename_i cs1 h1
      cases h
      cases hx with
      | agg _ _ cs' hv => exact .agg _ _ cs' (renL_V hk h1 hv)
    · cases h
  | d + 1, .tup cs, _, _, h, hx => by
    simp only [ren] at h
    split at h
    · rename_i cs1 h1
      cases h
      cases hx with
      | tup _ _ cs' hv => exact .tup _ _ cs' (renL_V hk h1 hv)
    · cases h
theorem renL_V (hk : kp = true → Im.le im im') : ∀ {d : Nat} {xs ys : List AV} {vs : List Value}, renL kp ids n d xs = some ys → VL im φ xs vs → VL im' (renPhi ids n φ) ys vs
  | 0, _, _, _, h, _ => by simp [renL] at h
  | d + 1, [], _, _, h, hx => by simp only [renL] at h; cases h; cases hx; exact .nil _
  | d + 1, x :: xs, _, _, h, hx => by
    simp only [renL] at h
    split at h
    · rename_i y ys h1 h2
      cases h
      cases hx with
      | cons _ _ v _ vs hv hvs => exact .cons _ _ _ _ _ (ren_V hk h1 hv) (renL_V hk h2 hvs)
    · cases h
end
end

def renBlks (kp : Bool) (ids : List Nat) (n : Nat) (h : AHeap) : List Nat → Option (List ABlk)
  | [] => some []
  | i :: is => match h i with
    | some b => match renL kp ids n 4096 b.cells, renBlks kp ids n h is with
      | some cs, some bs => some (⟨cs, b.ety⟩ :: bs)
      | _, _ => none
    | none => none

theorem renBlks_is {kp : Bool} {ids : List Nat} {n : Nat} {h : AHeap} : ∀ {is : List Nat} {bs : List ABlk}, renBlks kp ids n h is = some bs → bs.length = is.length ∧ ∀ (p : Nat) (k : ABlk), bs[p]? = some k → ∃ i b, is[p]? = some i ∧ h i = some b ∧ renL kp ids n 4096 b.cells = some k.cells ∧ k.ety = b.ety
  | [], bs, h => by cases h; exact ⟨rfl, fun p k h => by simp at h⟩
  | i :: is, bs, hh => by
    simp only [renBlks] at hh
    split at hh
    · rename_i b hb
      split at hh
      · rename_i cs bs' h1 h2
        cases hh
        obtain ⟨g1, g2⟩ := renBlks_is h2
        refine ⟨by simp [g1], fun p k hp => ?_⟩
        cases p with
        | zero =>
          simp only [List.getElem?_cons_zero, Option.some.injEq] at hp
          subst hp
          exact ⟨i, b, by simp, hb, h1, rfl⟩
        | succ p =>
          obtain ⟨i', b', q1, q2⟩ := g2 p k (by simpa using hp)
          exact ⟨i', b', by simpa using q1, q2⟩
      · cases hh
    · cases hh

theorem heapL_is : ∀ {bs : List ABlk} {n j : Nat} {k : ABlk}, heapL n bs j = some k → n ≤ j ∧ bs[j - n]? = some k
  | [], _, _, _, h => by cases h
  | b :: bs, n, j, k, h => by
    simp only [heapL] at h
    by_cases hj : j = n
    · subst hj
      rw [upd_same] at h
      cases h
      simp
    · rw [upd_other _ _ _ hj] at h
      obtain ⟨h1, h2⟩ := heapL_is h
      refine ⟨by omega, ?_⟩
      rw [show j - n = (j - (n + 1)) + 1 by omega]
      simpa using h2

def nodupB : List Nat → Bool
  | [] => true
  | x :: xs => !xs.elem x && nodupB xs

theorem nodupB_is : ∀ {xs : List Nat}, nodupB xs = true → ∀ {p q x : Nat}, xs[p]? = some x → xs[q]? = some x → p = q
  | [], _, p, q, x, h, _ => by simp at h
  | y :: ys, hn, p, q, x, h1, h2 => by
    simp only [nodupB, Bool.and_eq_true, Bool.not_eq_true', List.elem_eq_mem, decide_eq_false_iff_not] at hn
    cases p with
    | zero =>
      cases q with
      | zero => rfl
      | succ q =>
        simp only [List.getElem?_cons_zero, Option.some.injEq] at h1
        subst h1
        exact absurd (List.mem_of_getElem? (by simpa using h2)) hn.1
    | succ p =>
      cases q with
      | zero =>
        simp only [List.getElem?_cons_zero, Option.some.injEq] at h2
        subst h2
        exact absurd (List.mem_of_getElem? (by simpa using h1)) hn.1
      | succ q =>
        have := nodupB_is hn.2 (p := p) (q := q) (x := x) (by simpa using h1) (by simpa using h2)
        omega

/-- Memory under new numbers. -/
theorem HRep.ren {P : Program} {base : Nat} {φ : Phi} {im : Im} {h : AHeap} {w : World} (H : HRep P base φ im h w) {ids : List Nat} {n : Nat} (hn : nodupB ids = true) {kp : Bool} {bs : List ABlk} (hb : renBlks kp ids n h ids = some bs) (im' : Im)
    (him' : ∀ b cs, im' b = some cs → im b = some cs) (hk : kp = true → Im.le im im') : HRep P base (renPhi ids n φ) im' (heapL n bs) w := by
  obtain ⟨hlen, hbs⟩ := renBlks_is hb
  have ph : ∀ {j : Nat} {k : ABlk}, heapL n bs j = some k → ∃ i b, ids[j - n]? = some i ∧ h i = some b ∧ renL kp ids n 4096 b.cells = some k.cells ∧ k.ety = b.ety ∧ renPhi ids n φ j = φ i := by
    intro j k e
    obtain ⟨h1, h2⟩ := heapL_is e
    obtain ⟨i, b, q1, q2, q3, q4⟩ := hbs _ _ h2
    refine ⟨i, b, q1, q2, q3, q4, ?_⟩
    unfold renPhi
    rw [if_pos h1, q1]
    rfl
  refine ⟨fun b cs e => H.imh b cs (him' b cs e), ?_, ?_⟩
  · intro j k e
    obtain ⟨i, b, q1, q2, q3, q4, q5⟩ := ph e
    rcases H.own i b q2 with ⟨a1, a2⟩ | ⟨l, cs, a1, a2, a3, a4, a5, a6, a7⟩
    · left
      refine ⟨by rw [q5]; exact a1, ?_⟩
      rw [a2] at q3
      simp only [renL] at q3
      exact (Option.some.inj q3).symm
    · right
      have hL : VL im' (renPhi ids n φ) k.cells (cs.toList.take b.cells.length) := renL_V hk q3 a7
      refine ⟨l, cs, by rw [q5]; exact a1, by rw [q4]; exact a2, a3, ?_, a5, by rw [q4]; exact a6, ?_⟩
      · cases hi : im' l.blk with
        | none => rfl
        | some c => rw [him' _ _ hi] at a4; cases a4
      · have hl1 := hL.length
        have hl2 := a7.length
        have : k.cells.length = b.cells.length := by omega
        rw [this]
        exact hL
  · intro j1 j2 k1 k2 l1 l2 e1 e2 p1 p2 hl
    obtain ⟨i1, b1, q1, q2, q3, q4, q5⟩ := ph e1
    obtain ⟨i2, b2, r1, r2, r3, r4, r5⟩ := ph e2
    rw [q5] at p1
    rw [r5] at p2
    have := H.apart i1 i2 b1 b2 l1 l2 q2 r2 p1 p2 hl
    subst this
    have := nodupB_is hn q1 r1
    have := (heapL_is e1).1
    have := (heapL_is e2).1
    omega

/-! ### What is handed over -/
mutual
def idsV : Nat → AV → List Nat
  | 0, _ => []
  | _ + 1, .ptr i _ => [i]
  | _ + 1, .slc i _ _ => [i]
  | d + 1, .fn _ a c => idsL d a ++ idsL d c
  | d + 1, .agg cs => idsL d cs
  | d + 1, .tup cs => idsL d cs
  | _ + 1, _ => []
def idsL : Nat → List AV → List Nat
  | 0, _ => []
  | _ + 1, [] => []
  | d + 1, x :: xs => idsV d x ++ idsL d xs
end

def reach (h : AHeap) : Nat → List Nat → List Nat → List Nat
  | 0, _, seen => seen
  | _ + 1, [], seen => seen
  | d + 1, i :: todo, seen => bif seen.elem i then reach h d todo seen else match h i with
    | some b => reach h d (idsL 4096 b.cells ++ todo) (seen ++ [i])
    | none => reach h d todo (seen ++ [i])

structure HOut where
  val : AV
  blks : List ABlk
  ok : Bool

/-- What a function leaves where it stands at its end. -/
def finH (P : Program) (s : St) (rs : List ResultVar) (n : Nat) : Option HOut :=
  match resVars P s rs with
  | some (ys, c1) =>
    let ids := reach s.heap 4096 (idsL 4096 ys) []
    match renL false ids n 4096 ys, renBlks false ids n s.heap ids with
    | some zs, some bs => bif nodupB ids && Nat.ble ids.length 64 then some ⟨one zs, bs, c1 && s.ok⟩ else none
    | _, _ => none
  | none => none

def evFnH (C : Ctx) (nt : Nat) (qs : List Nat) (fuel : Nat) (c : Code) (rs : List ResultVar) (xs : List AV) (dec : List Bool) (n : Nat) : Option HOut :=
  match evCode C nt qs fuel c (St0 xs dec) with
  | some (.exit _, _) => none
  | some (_, s) => finH C.P s rs n
  | none => none

section
variable {C : Ctx} {nt : Nat} {qs : List Nat} {fuel : Nat}

/-- A function's contract: from where its code goes. -/
theorem con_goes {f : FuncId} {fn : Func} {c : Code} (hf : C.P.funcs[f]? = some fn) (hb : fn.body = some c) (hname : (fn.name == "runtime.NumGoroutine") = false) (hnt : fn.ntmps = nt)
    {xs : List AV} (hl : xs.length ≤ nt) {dec : List Bool} {e : Ex} {s : St} (hgo : ∀ w0, Goes C w0 nt c (St0 xs dec) e s) (hre : e = .ret ∨ e = .normal) {n : Nat} {r : HOut} (hs : finH C.P s fn.results.toList n = some r) (hok : r.ok = true) : Con C.P f xs n r.val r.blks := by
  intro im w args him hv
  refine ⟨_, _, run_callFunc hf hb hname args w, .inr ⟨f, args, rfl, ?_⟩⟩
  have hstart := rel_start (C := C) him hv hl dec
  unfold finH at hs
  split at hs
  · rename_i ys c1 hys
    dsimp only at hs
    split at hs
    · rename_i zs bs hzs hbs
      cases hg : (nodupB (reach s.heap 4096 (idsL 4096 ys) []) && Nat.ble (reach s.heap 4096 (idsL 4096 ys) []).length 64) with
      | false => rw [hg] at hs; cases hs
      | true =>
        rw [hg] at hs
        cases hs
        simp only [Bool.and_eq_true, Nat.ble_eq] at hg
        simp only [Bool.and_eq_true] at hok
        obtain ⟨hc1, hsok⟩ := hok
        generalize hids : reach s.heap 4096 (idsL 4096 ys) [] = ids at *
        refine calls_of_wp hf hb ?_
        rw [hnt]
        refine Go.wp_mono ((hgo w).of hstart) fun x a' w' ⟨hx, hR⟩ => ?_
        obtain ⟨⟨φ, im', RF, _⟩, _⟩ := hR
        obtain ⟨vs, g1, g2⟩ := resVars_sound RF hys hc1
        have g3 : VL (fun _ => none) (renPhi ids n φ) zs vs := renL_V (fun h => by cases h) hzs g2
        have hres : (results fn a'.tmps).run C.P w' = .ok (if h : vs.toArray.size = 1 then vs.toArray[0] else .tuple vs.toArray) w' := by
          have e : results fn a'.tmps = (do
            let vs ← fn.results.mapM (readRes a')
            return if h : vs.size = 1 then vs[0] else .tuple vs) := by
            unfold results
            congr 1
          rw [e, Array.mapM_eq_mapM_toList]
          simp only [Sem.run_bind, bind_map_left]
          rw [g1]
          rfl
        have hpost : ∃ v, (if h : vs.toArray.size = 1 then vs.toArray[0] else .tuple vs.toArray : Value) = v ∧ Leaves C.P w n (one zs) bs v w' := by
          refine ⟨_, rfl, renPhi ids n φ, fun _ => none, RF.below, fun i hi => ?_, fun b cs hb => (by cases hb), RF.hrep.ren hg.1 hbs _ (fun b cs hb => by cases hb) (fun h => by cases h), one_sound (by simpa using g3)⟩
          unfold renPhi at hi
          split at hi
          · rename_i hni
            refine ⟨hni, ?_⟩
            cases hq : ids[i - n]? with
            | none => rw [hq] at hi; exact absurd rfl hi
            | some k =>
              have := (List.getElem?_eq_some_iff.1 hq).1
              omega
          · exact absurd rfl hi
        obtain ⟨v, hv1, hv2⟩ := hpost
        rcases hre with rfl | rfl
        · subst hx
          exact ⟨RF.defers, v, by rw [hres, hv1], v, rfl, hv2⟩
        · subst hx
          exact ⟨RF.defers, v, by rw [hres, hv1], v, rfl, hv2⟩
    · cases hs
  · cases hs

theorem finH_ok {P : Program} {s : St} {rs : List ResultVar} {n : Nat} {r : HOut} (h : finH P s rs n = some r) (hok : r.ok = true) : s.ok = true := by
  unfold finH at h
  split at h
  · dsimp only at h
    split at h
    · rename_i ys c1 hys _ _ zs bs hzs hbs
      cases hg : (nodupB (reach s.heap 4096 (idsL 4096 ys) []) && Nat.ble (reach s.heap 4096 (idsL 4096 ys) []).length 64) with
      | false => rw [hg] at h; cases h
      | true =>
        rw [hg] at h
        cases h
        simp only [Bool.and_eq_true] at hok
        exact hok.2
    · cases h
  · cases h

theorem con_ofH (hO : OrcOK C.P C.orc) (hm : C.P.follows .mixedOrders = true) {f : FuncId} {fn : Func} {c : Code} (hf : C.P.funcs[f]? = some fn) (hb : fn.body = some c) (hname : (fn.name == "runtime.NumGoroutine") = false) (hnt : fn.ntmps = nt)
    {xs : List AV} (hl : xs.length ≤ nt) {dec : List Bool} {n : Nat} {r : HOut} (hev : evFnH C nt qs fuel c fn.results.toList xs dec n = some r) (hok : r.ok = true) : Con C.P f xs n r.val r.blks := by
  unfold evFnH at hev
  split at hev
  · cases hev
  · rename_i e s hne he
    refine con_goes hf hb hname hnt hl (dec := dec) (e := e) (s := s) (fun w0 => (evCode_sound hO hm c _ s e he (finH_ok hev hok)).2) ?_ hev hok
    cases e with
    | ret => exact .inl rfl
    | normal => exact .inr rfl
    | exit j => exact absurd rfl (hne j)
  · cases hev
end
end Go.Eng
/- Engine, part 23: functions by their own text, called from one another to a depth. Condition: the text is the program's. -/
namespace Go.Eng
open Go Go.RowKit

def nameOk (s : String) : Bool := !(s == "runtime.NumGoroutine")

/-- A call, evaluated by the text of what is called; at depth 0 by what is told beforehand. -/
def orcI (P : Program) (deep : FuncId → Bool) (qs : FuncId → List Nat) (base : Orc) (fuel : Nat) : Nat → Orc
  | 0 => base
  | d + 1 => fun f xs n => match base f xs n with
    | some r => some r
    | none => match P.funcs[f]? with
      | some fn => match fn.body with
        | some c => bif nameOk fn.name && Nat.ble xs.length fn.ntmps then
            (match evFnH (ctx0 P (orcI P deep qs base fuel d) deep) fn.ntmps (qs f) fuel c fn.results.toList xs [] n with
              | some r => some ⟨r.val, r.blks, r.ok⟩
              | none => none)
          else none
        | none => none
      | none => none

theorem orcI_ok {P : Program} (hm : P.follows .mixedOrders = true) (deep : FuncId → Bool) (qs : FuncId → List Nat) (base : Orc) (fuel : Nat) (hb : OrcOK P base) : ∀ d, OrcOK P (orcI P deep qs base fuel d)
  | 0 => hb
  | d + 1 => by
    intro f xs n r h hok
    have ih := orcI_ok hm deep qs base fuel hb d
    unfold orcI at h
    split at h
    · rename_i r' hr
      cases h
      exact hb f xs n r hr hok
    · split at h
      · rename_i fn hfn
        split at h
        · rename_i c hc
          cases hg : (nameOk fn.name && Nat.ble xs.length fn.ntmps) with
          | false => rw [hg] at h; cases h
          | true =>
            rw [hg] at h
            simp only [cond_true] at h
            simp only [Bool.and_eq_true, Nat.ble_eq] at hg
            split at h
            · rename_i r' hev
              cases h
              exact con_ofH (C := ctx0 P (orcI P deep qs base fuel d) deep) ih hm hfn hc (by simpa [nameOk] using hg.1) rfl hg.2 hev hok
            · cases h
        · cases h
      · cases h
end Go.Eng

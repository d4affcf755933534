/- Engine, part 1: abstract values and what it means that a concrete value stands for one. No condition: definitions and small laws. -/
import Derived.WalkKit
import Derived.WalkLawsBesides
namespace Go.Eng
open Go

/-! ### Floats: one NaN -/
def qnan : Nat := 9221120237041090561
def nanB (b : Nat) : Bool := decide (9218868437227405312 < b % 9223372036854775808)
def canon (b : Nat) : Nat := bif nanB b then qnan else b

/-! ### Abstract values -/
inductive AV where
  | undef
  | bool (b : Bool)
  | int (k : IntKind) (n : Int)
  | flt (x : Nat)
  | str (s : ByteArray)
  | nilp
  | ptr (i off : Nat)
  | nils
  | slc (i off len : Nat)
  | snap (cells : List AV) (len : Nat)
  | sptr (cells : List AV) (off : Nat)
  | nilfn
  | nilif
  | fn (f : FuncId) (first cap : List AV)
  | agg (cs : List AV)
  | tup (vs : List AV)

/-- Where an own block lies. -/
structure Loc where
  blk : Nat
  cap : Nat

abbrev Phi := Nat → Option Loc
abbrev Im := Nat → Option (Array Value)

mutual
/-- The concrete value stands for the abstract one. What a slice that came in holds never leads into one's own memory. -/
inductive V (im : Im) : Phi → AV → Value → Prop where
  | undef (φ : Phi) : V im φ .undef (.tuple #[])
  | bool (φ : Phi) (b : Bool) : V im φ (.bool b) (.bool b)
  | int (φ : Phi) (k : IntKind) (n : Int) : V im φ (.int k n) (.int k n)
  | flt (φ : Phi) (b : Nat) (h : b < 18446744073709551616) : V im φ (.flt (canon b)) (.float .f64 b)
  | str (φ : Phi) (s : ByteArray) : V im φ (.str s) (.string s)
  | nilp (φ : Phi) : V im φ .nilp (.pointer none)
  | ptr (φ : Phi) (i off : Nat) (l : Loc) (h : φ i = some l) : V im φ (.ptr i off) (.pointer (some ⟨l.blk, off, none⟩))
  | nils (φ : Phi) : V im φ .nils (.slice none 0 0)
  | slc (φ : Phi) (i off len cap : Nat) (l : Loc) (h : φ i = some l) (hle : len ≤ cap) (hc : off = 0 → cap ≤ l.cap) : V im φ (.slc i off len) (.slice (some ⟨l.blk, off, none⟩) len cap)
  | slc0 (φ : Phi) (i off : Nat) : V im φ (.slc i off 0) (.slice none 0 0)
  | snap (φ : Phi) (cells : List AV) (len b o cap : Nat) (cs : Array Value) (vs : List Value) (him : im b = some cs) (hvs : vs = (cs.toList.drop o).take cells.length) (h : VL im (fun _ => none) cells vs) (hle : len ≤ cap) :
      V im φ (.snap cells len) (.slice (some ⟨b, o, none⟩) len cap)
  | snape (φ : Phi) (cells : List AV) (x : Option Addr) (cap : Nat) : V im φ (.snap cells 0) (.slice x 0 cap)
  | sptr (φ : Phi) (cells : List AV) (off b o : Nat) (cs : Array Value) (vs : List Value) (him : im b = some cs) (hvs : vs = (cs.toList.drop o).take cells.length) (h : VL im (fun _ => none) cells vs) :
      V im φ (.sptr cells off) (.pointer (some ⟨b, o + off, none⟩))
  | nilfn (φ : Phi) : V im φ .nilfn .nilFunc
  | nilif (φ : Phi) : V im φ .nilif .nilIface
  | fn (φ : Phi) (f : FuncId) (a c : List AV) (a' c' : Array Value) (ha : VL im φ a a'.toList) (hc : VL im φ c c'.toList) : V im φ (.fn f a c) (.func (.func f) a' c')
  | agg (φ : Phi) (cs : List AV) (cs' : Array Value) (h : VL im φ cs cs'.toList) : V im φ (.agg cs) (.agg cs')
  | tup (φ : Phi) (cs : List AV) (cs' : Array Value) (h : VL im φ cs cs'.toList) : V im φ (.tup cs) (.tuple cs')
inductive VL (im : Im) : Phi → List AV → List Value → Prop where
  | nil (φ : Phi) : VL im φ [] []
  | cons (φ : Phi) (x : AV) (v : Value) (xs : List AV) (vs : List Value) (h : V im φ x v) (hs : VL im φ xs vs) : VL im φ (x :: xs) (v :: vs)
end

/-- One place more is known. -/
def Phi.le (φ φ' : Phi) : Prop := ∀ i l, φ i = some l → φ' i = some l
def Im.le (im im' : Im) : Prop := ∀ b c, im b = some c → im' b = some c

mutual
theorem V.mono {φ φ' : Phi} {im im' : Im} (hp : φ.le φ') (hi : im.le im') : ∀ {x : AV} {v : Value}, V im φ x v → V im' φ' x v
  | _, _, .undef _ => .undef _
  | _, _, .bool _ b => .bool _ b
  | _, _, .int _ k n => .int _ k n
  | _, _, .flt _ b h => .flt _ b h
  | _, _, .str _ s => .str _ s
  | _, _, .nilp _ => .nilp _
  | _, _, .ptr _ i off l h => .ptr _ i off l (hp _ _ h)
  | _, _, .nils _ => .nils _
  | _, _, .slc _ i off len cap l h a b => .slc _ i off len cap l (hp _ _ h) a b
  | _, _, .slc0 _ i off => .slc0 _ i off
  | _, _, .snap _ cells len b o cap cs vs him hvs h hle => .snap _ cells len b o cap cs vs (hi _ _ him) hvs (VL.mono (fun _ _ e => e) hi h) hle
  | _, _, .snape _ cs x c => .snape _ cs x c
  | _, _, .sptr _ cells off b o cs vs him hvs h => .sptr _ cells off b o cs vs (hi _ _ him) hvs (VL.mono (fun _ _ e => e) hi h)
  | _, _, .nilfn _ => .nilfn _
  | _, _, .nilif _ => .nilif _
  | _, _, .fn _ f a c a' c' ha hc => .fn _ f a c a' c' (VL.mono hp hi ha) (VL.mono hp hi hc)
  | _, _, .agg _ cs cs' h => .agg _ cs cs' (VL.mono hp hi h)
  | _, _, .tup _ cs cs' h => .tup _ cs cs' (VL.mono hp hi h)
theorem VL.mono {φ φ' : Phi} {im im' : Im} (hp : φ.le φ') (hi : im.le im') : ∀ {x : List AV} {v : List Value}, VL im φ x v → VL im' φ' x v
  | _, _, .nil _ => .nil _
  | _, _, .cons _ x v xs vs h hs => .cons _ x v xs vs (V.mono hp hi h) (VL.mono hp hi hs)
end

theorem VL.length {φ : Phi} {im : Im} : ∀ {xs : List AV} {vs : List Value}, VL im φ xs vs → xs.length = vs.length
  | _, _, .nil _ => rfl
  | _, _, .cons _ _ _ _ _ _ hs => by simp [VL.length hs]

theorem VL.get {φ : Phi} {im : Im} : ∀ {xs : List AV} {vs : List Value}, VL im φ xs vs → ∀ (j : Nat) (x : AV), xs[j]? = some x → ∃ v, vs[j]? = some v ∧ V im φ x v
  | _, _, .nil _, j, x, h => by simp at h
  | _, _, .cons _ y v xs vs h hs, 0, x, hx => by
    simp at hx; subst hx; exact ⟨v, by simp, h⟩
  | _, _, .cons _ y v xs vs h hs, j + 1, x, hx => by
    simp at hx
    obtain ⟨u, hu, hv⟩ := hs.get j x hx
    exact ⟨u, by simpa using hu, hv⟩

theorem VL.mk {φ : Phi} {im : Im} : ∀ (xs : List AV) (vs : List Value), xs.length = vs.length → (∀ (j : Nat) (x : AV) (v : Value), xs[j]? = some x → vs[j]? = some v → V im φ x v) → VL im φ xs vs
  | [], [], _, _ => .nil _
  | [], _ :: _, h, _ => by simp at h
  | _ :: _, [], h, _ => by simp at h
  | x :: xs, v :: vs, h, k => .cons _ x v xs vs (k 0 x v (by simp) (by simp)) (VL.mk xs vs (by simpa using h) fun j a b ha hb => k (j + 1) a b (by simpa using ha) (by simpa using hb))

theorem VL.drop {φ : Phi} {im : Im} : ∀ {xs : List AV} {vs : List Value} (n : Nat), VL im φ xs vs → VL im φ (xs.drop n) (vs.drop n)
  | _, _, 0, h => by simpa using h
  | _, _, n + 1, .nil _ => by simpa using VL.nil _
  | _, _, n + 1, .cons _ x v xs vs h hs => by simpa using hs.drop n

theorem VL.take {φ : Phi} {im : Im} : ∀ {xs : List AV} {vs : List Value} (n : Nat), VL im φ xs vs → VL im φ (xs.take n) (vs.take n)
  | _, _, 0, h => by simpa using VL.nil _
  | _, _, n + 1, .nil _ => by simpa using VL.nil _
  | _, _, n + 1, .cons _ x v xs vs h hs => by simpa using VL.cons _ _ _ _ _ h (hs.take n)

theorem VL.append {φ : Phi} {im : Im} : ∀ {xs ys : List AV} {vs ws : List Value}, VL im φ xs vs → VL im φ ys ws → VL im φ (xs ++ ys) (vs ++ ws)
  | _, _, _, _, .nil _, h => by simpa using h
  | _, _, _, _, .cons _ x v xs vs h hs, k => by simpa using VL.cons _ _ _ _ _ h (hs.append k)

theorem VL.set {φ : Phi} {im : Im} : ∀ {xs : List AV} {vs : List Value} (n : Nat) (x : AV) (v : Value), VL im φ xs vs → V im φ x v → VL im φ (xs.set n x) (vs.set n v)
  | _, _, _, _, _, .nil _, _ => by simpa using VL.nil _
  | _, _, 0, _, _, .cons _ y w xs vs h hs, k => by simpa using VL.cons _ _ _ _ _ k hs
  | _, _, n + 1, _, _, .cons _ y w xs vs h hs, k => by simpa using VL.cons _ _ _ _ _ h (hs.set n _ _ k)

theorem VL.replicate {φ : Phi} {im : Im} (x : AV) (v : Value) (h : V im φ x v) : ∀ n, VL im φ (List.replicate n x) (List.replicate n v)
  | 0 => by simpa using VL.nil _
  | n + 1 => by simpa [List.replicate_succ] using VL.cons _ _ _ _ _ h (VL.replicate x v h n)

end Go.Eng

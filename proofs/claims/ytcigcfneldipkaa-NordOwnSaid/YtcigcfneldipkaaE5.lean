/- Engine, part 5: the evaluator of one operation on abstract values. Definitions alone. -/
import Derived.Test.YtcigcfneldipkaaE4
namespace Go.Eng
open Go

def BinOp.isCmp : BinOp → Bool
  | .eql | .neq | .lss | .leq | .gtr | .geq => true
  | _ => false

/-- What an operation does: the value, the blocks that it sets, the blocks that it looks at, what must hold. -/
structure Eff where
  val : AV
  wr : List (Nat × Option ABlk)
  rd : List Nat
  ok : Bool

def pur (x : AV) : Option Eff := some ⟨x, [], [], true⟩
def purIf (x : AV) (c : Bool) : Option Eff := some ⟨x, [], [], c⟩

/-! ### Cells read by their type -/
def AV.toFlt : AV → Nat | .flt x => x | _ => 0
def AV.toInt : AV → Int | .int _ n => n | _ => 0
def AV.toBool : AV → Bool | .bool b => b | _ => false
def AV.isFlt : AV → Bool | .flt _ => true | _ => false
def AV.isInt (k : IntKind) : AV → Bool | .int k' _ => decide (k' = k) | _ => false
def AV.isBool : AV → Bool | .bool _ => true | _ => false

inductive Leaf where
  | f | i (k : IntKind) | b | other

def leafOf : TypeDesc → Leaf
  | .float .f64 => .f
  | .int k => .i k
  | .bool => .b
  | _ => .other

def AV.eta : Leaf → AV → AV
  | .f, x => .flt x.toFlt
  | .i k, x => .int k x.toInt
  | .b, x => .bool x.toBool
  | .other, x => x
def AV.etaOk : Leaf → AV → Bool
  | .f, x => x.isFlt
  | .i k, x => x.isInt k
  | .b, x => x.isBool
  | .other, _ => true

/-- The kinds of a type's cells, in order (looked at to a depth; 'none': too deep, or no such type). -/
def leaves (P : Program) : Nat → TypeId → List Leaf
  | 0, _ => []
  | d + 1, t => match P.underlying t with
    | some (.struct fs) => fs.toList.flatMap fun f => leaves P d f.type
    | some (.array n e) => (List.replicate n (leaves P d e)).flatten
    | some u => [leafOf u]
    | none => []

def aggB (P : Program) (t : TypeId) : Bool :=
  match P.underlying t with
  | some (.struct _) | some (.array _ _) => true
  | _ => false

def etas : List Leaf → List AV → Nat → List AV
  | [], _, _ => []
  | l :: ls, cells, off => (cells.getD off .undef).eta l :: etas ls cells (off + 1)
def etasOk : List Leaf → List AV → Nat → Bool
  | [], _, _ => true
  | l :: ls, cells, off => (cells.getD off .undef).etaOk l && etasOk ls cells (off + 1)

/-- A variable of type t among cells, from a place on. -/
def loadV (P : Program) (t : TypeId) (cells : List AV) (off : Nat) : Option (AV × Bool) :=
  bif aggB P t then
    let ls := leaves P 6 t
    bif Nat.beq ls.length (esz P t) && Nat.blt 0 (esz P t) then some (.agg (etas ls cells off), Nat.ble (off + esz P t) cells.length && etasOk ls cells off) else none
  else match P.underlying t with
    | some u => some ((cells.getD off .undef).eta (leafOf u), Nat.blt off cells.length && (cells.getD off .undef).etaOk (leafOf u))
    | none => none

def setL {α : Type} (cells : List α) (off : Nat) : List α → List α
  | [] => cells
  | x :: xs => setL (cells.set off x) (off + 1) xs

/-! ### Plain operations -/
def intV (op : BinOp) (k : IntKind) (a b : Int) : Option Eff :=
  match op with
  | .add => pur (.int k (k.wrap (a + b)))
  | .sub => pur (.int k (k.wrap (a - b)))
  | .mul => pur (.int k (k.wrap (a * b)))
  | .quo => purIf (.int k (k.wrap (a.tdiv b))) (b != 0)
  | .rem => purIf (.int k (a.tmod b)) (b != 0)
  | .and => pur (.int k (k.wrap (BitVec.ofInt k.bits a &&& BitVec.ofInt k.bits b).toNat))
  | .or => pur (.int k (k.wrap (BitVec.ofInt k.bits a ||| BitVec.ofInt k.bits b).toNat))
  | .xor => pur (.int k (k.wrap (BitVec.ofInt k.bits a ^^^ BitVec.ofInt k.bits b).toNat))
  | .andNot => pur (.int k (k.wrap (BitVec.ofInt k.bits a &&& ~~~BitVec.ofInt k.bits b).toNat))
  | .eql => pur (.bool (a == b))
  | .neq => pur (.bool (a != b))
  | .lss => pur (.bool (decide (a < b)))
  | .leq => pur (.bool (decide (a ≤ b)))
  | .gtr => pur (.bool (decide (a > b)))
  | .geq => pur (.bool (decide (a ≥ b)))
  | _ => none

def shiftV (op : BinOp) (k : IntKind) (a b : Int) : Option Eff :=
  match op with
  | .shl => purIf (.int k (k.wrap (a * 2 ^ (min b.toNat k.bits)))) (decide (0 ≤ b))
  | .shr => purIf (.int k (a.fdiv (2 ^ (min b.toNat k.bits)))) (decide (0 ≤ b))
  | _ => none

def isShift : BinOp → Bool
  | .shl | .shr => true
  | _ => false

def fltV (op : BinOp) (x y : Nat) : Option Eff :=
  match op with
  | .add => pur (.flt (fadd x y))
  | .sub => pur (.flt (fsub x y))
  | .mul => pur (.flt (fmul x y))
  | .quo => pur (.flt (fdiv x y))
  | .eql => pur (.bool (feq x y))
  | .neq => pur (.bool (fne x y))
  | .lss => pur (.bool (flt x y))
  | .leq => pur (.bool (fle x y))
  | .gtr => pur (.bool (fgt x y))
  | .geq => pur (.bool (fge x y))
  | _ => none

def strV (op : BinOp) (x y : ByteArray) : Option Eff :=
  match op with
  | .eql => pur (.bool (x.toList == y.toList))
  | .neq => pur (.bool (!(x.toList == y.toList)))
  | .add => purIf (.str (x ++ y)) (decide (x.size + y.size ≤ 9223372036854775807))
  | _ => none

def boolB (P : Program) (t : TypeId) : Bool := match P.underlying t with | some .bool => true | _ => false

def binV (P : Program) (op : BinOp) (t : TypeId) (x y : AV) : Option Eff :=
  match x, y with
  | .int k a, .int k' b => bif isShift op then shiftV op k a b else bif decide (k = k') then intV op k a b else none
  | .flt a, .flt b => fltV op a b
  | .str a, .str b => strV op a b
  | .bool a, .bool b => bif boolB P t then (match op with | .eql => pur (.bool (a == b)) | .neq => pur (.bool (!(a == b))) | _ => none) else none
  | _, _ => none

def unV (op : UnOp) (x : AV) : Option Eff :=
  match op, x with
  | .not, .bool b => pur (.bool (!b))
  | .neg, .int k n => pur (.int k (k.wrap (0 - n)))
  | .neg, .flt x => pur (.flt (fneg x))
  | _, _ => none

/-- A float cut to a whole number, if the kind has it. -/
def fcut (x : Nat) : Int := ((Ieee.double.read x).toInt .zero).getD 0
def fcutOk (k : IntKind) (x : Nat) : Bool :=
  match (Ieee.double.read x).toInt .zero with
  | some n => decide (k.min ≤ n ∧ n ≤ k.max)
  | none => false

def convV (P : Program) (src dst : TypeId) (x : AV) : Option Eff :=
  match P.underlying src, P.underlying dst, x with
  | some (.int _), some (.int k), .int _ n => pur (.int k (k.wrap n))
  | some (.int _), some (.float .f64), .int _ n => pur (.flt (fofint n))
  | some (.float .f64), some (.int k), .flt a => purIf (.int k (fcut a)) (fcutOk k a)
  | some (.float .f64), some (.float .f64), .flt a => pur (.flt a)
  | some .string, some .string, .str s => pur (.str s)
  | _, _, _ => none

/-! ### Places and parts -/
def fieldsOf (P : Program) (t : TypeId) (f : Nat) : Option Field :=
  match P.underlying t with
  | some (.struct fs) => fs[f]?
  | _ => none

def fieldAddrV (P : Program) (s : TypeId) (x : AV) (f : Nat) : Option Eff :=
  match fieldsOf P s f with
  | some fd => bif Nat.beq (esz P fd.type) 0 then none else
    match x with
    | .ptr i off => pur (.ptr i (off + fd.offset))
    | .sptr cells off => pur (.sptr cells (off + fd.offset))
    | _ => none
  | none => none

def fieldV (P : Program) (t : TypeId) (x : AV) (f : Nat) : Option Eff :=
  match fieldsOf P t f, x with
  | some fd, .agg cs => match loadV P fd.type cs fd.offset with
    | some (v, c) => purIf v c
    | none => none
  | _, _ => none

def indexAddrV (P : Program) (t : TypeId) (x ix : AV) : Option Eff :=
  match ix with
  | .int _ n =>
    match P.underlying t with
    | some (.array len e) =>
      bif Nat.beq (esz P e) 0 then none else match x with
      | .ptr i off => purIf (.ptr i (off + n.toNat * esz P e)) (decide (0 ≤ n ∧ n < len))
      | .sptr cells off => purIf (.sptr cells (off + n.toNat * esz P e)) (decide (0 ≤ n ∧ n < len))
      | _ => none
    | some (.slice e) =>
      bif Nat.beq (esz P e) 0 then none else match x with
      | .slc i off len => purIf (.ptr i (off + n.toNat * esz P e)) (decide (0 ≤ n ∧ n < len))
      | .snap cells len => purIf (.sptr cells (n.toNat * esz P e)) (decide (0 ≤ n ∧ n < len))
      | _ => none
    | _ => none
  | _ => none

def indexV (P : Program) (t : TypeId) (x ix : AV) : Option Eff :=
  match ix with
  | .int _ n =>
    match P.underlying t, x with
    | some (.array len e), .agg cs => bif Nat.beq (esz P e) 0 then none else match loadV P e cs (n.toNat * esz P e) with
      | some (v, c) => purIf v (c && decide (0 ≤ n ∧ n < len))
      | none => none
    | some .string, .str s => purIf (.int .u8 ((s[n.toNat]?.map fun b => (b.toNat : Int)).getD 0)) (decide (0 ≤ n ∧ n < s.size))
    | _, _ => none
  | _ => none

def optInt : Option AV → Option (Option Int)
  | none => some none
  | some (.int _ n) => some (some n)
  | _ => none

/-- x[lo:hi], x[lo:hi:mx] -/
def sliceV (P : Program) (t : TypeId) (x : AV) (lo hi mx : Option AV) : Option Eff :=
  match optInt lo, optInt hi, optInt mx with
  | some lo, some hi, some mx =>
    match P.underlying t, x with
    | some (.slice e), .slc i off len =>
      let h := hi.getD len; let l := lo.getD 0
      bif Nat.beq (esz P e) 0 then none else purIf (.slc i (off + l.toNat * esz P e) (h - l).toNat) (decide (0 ≤ l ∧ l ≤ h ∧ h ≤ len) && (match lo with | none => true | some l => decide (l < h)) && (match mx with | none => true | some m => decide (h ≤ m ∧ m ≤ len ∧ hi.isSome = true)))
    | some (.slice e), .snap cells len =>
      let h := hi.getD len; let l := lo.getD 0
      bif Nat.beq (esz P e) 0 then none else purIf (.snap (cells.drop (l.toNat * esz P e)) (h - l).toNat) (decide (0 ≤ l ∧ l ≤ h ∧ h ≤ len) && (match lo with | none => true | some l => decide (l < h)) && (match mx with | none => true | some m => decide (h ≤ m ∧ m ≤ len ∧ hi.isSome = true)))
    | some .string, .str s =>
      let h := hi.getD s.size; let l := lo.getD 0
      match mx with
      | none => purIf (.str (s.extract l.toNat h.toNat)) (decide (0 ≤ l ∧ l ≤ h ∧ h ≤ s.size))
      | some _ => none
    | _, _ => none
  | _, _, _ => none

/-! ### Memory of one's own -/
def zeroV (P : Program) (t : TypeId) : Option AV := match P.info? t with | some i => i.zero.bind ofConst | none => none

def placesOf (P : Program) (fs : List Field) : Option (List (Nat × Nat)) := fs.mapM (fun f => (P.info? f.type).map fun i => (f.offset, i.size))

def fillV (place : Nat → Option (Nat × Nat)) (cells : List AV) : List (Nat × AV) → Option (List AV)
  | [] => some cells
  | (i, v) :: rest => match place i with
    | none => none
    | some (off, size) => bif Nat.beq v.cells.length size && Nat.ble (off + size) cells.length then fillV place (setL cells off v.cells) rest else none

def buildV (P : Program) (t : TypeId) (parts : List (Nat × AV)) : Option Eff :=
  match zeroV P t with
  | none => none
  | some z => match P.underlying t with
    | some (.struct fs) => match placesOf P fs.toList with
      | some pl => match fillV (fun i => pl.toArray[i]?) z.cells parts with
        | some cs => pur (.agg cs)
        | none => none
      | none => none
    | some (.array _ e) => match P.info? e with
      | some ie => match fillV (fun i => some (i * ie.size, ie.size)) z.cells parts with
        | some cs => pur (.agg cs)
        | none => none
      | none => none
    | _ => none

def sliceElem (P : Program) (t : TypeId) : Option TypeId := match P.underlying t with | some (.slice e) => some e | _ => none

/-- n times the cells of z, cut: the cells of a new row. -/
def repV : List AV → Nat → List AV
  | [x], n => List.replicate n x
  | z, n => (List.replicate n z).flatten

def AV.one : AV → Bool | .agg _ | .tup _ | .undef => false | _ => true

def allocV (P : Program) (t : TypeId) (n : Nat) : Option Eff :=
  match zeroV P t with
  | some z => bif Nat.beq z.cells.length (esz P t) then some ⟨.ptr n 0, [(n, some ⟨z.cells, t⟩)], [], true⟩ else none
  | none => none

def boxV (P : Program) (t : TypeId) (v : AV) (n : Nat) : Option Eff :=
  bif Nat.beq v.cells.length (esz P t) then some ⟨.ptr n 0, [(n, some ⟨v.cells, t⟩)], [], true⟩ else none

def buildSliceV (P : Program) (t : TypeId) (len : Nat) (parts : List (Nat × AV)) (n : Nat) : Option Eff :=
  match sliceElem P t with
  | none => none
  | some e => match zeroV P e with
    | none => none
    | some z => bif Nat.beq z.cells.length (esz P e) && Nat.ble (len * esz P e) 16777216 && Nat.blt 0 (esz P e) then
        match fillV (fun i => some (i * esz P e, esz P e)) (repV z.cells len) parts with
        | some cs => some ⟨.slc n 0 len, [(n, some ⟨cs, e⟩)], [], true⟩
        | none => none
      else none

def makeV (P : Program) (t : TypeId) (l c : AV) (n : Nat) : Option Eff :=
  match l, c, sliceElem P t with
  | .int _ l, .int _ c, some e => match zeroV P e, P.info? e with
    | some z, some i => bif Nat.beq z.cells.length i.size && Nat.blt 0 i.size then
        some ⟨.slc n 0 l.toNat, [(n, some ⟨repV z.cells l.toNat, e⟩)], [], decide (0 ≤ l ∧ l ≤ c ∧ (i.bytes : Int) * c ≤ 281474976710656 ∧ c ≤ 9223372036854775807)⟩ else none
    | _, _ => none
  | _, _, _ => none

/-- What a slice holds: its cells, how many elements, what was looked at. -/
def srcV (size : Nat) (h : AHeap) : AV → Option (List AV × Nat × List Nat × Bool)
  | .nils => some ([], 0, [], true)
  | .snap cells m => some (cells.take (m * size), m, [], Nat.ble (m * size) cells.length)
  | .slc k o m => match h k with
    | some b => some ((b.cells.drop o).take (m * size), m, [k], Nat.ble (o + m * size) b.cells.length)
    | none => none
  | _ => none

def appendV (P : Program) (t : TypeId) (s x : AV) (h : AHeap) (n : Nat) : Option Eff :=
  match sliceElem P t with
  | none => none
  | some e => match P.info? e, zeroV P e with
    | some i, some z => bif Nat.beq z.cells.length i.size && Nat.blt 0 i.size then
        match srcV i.size h x with
        | none => none
        | some (news, m, rd, c) =>
          match s with
          | .nils => some ⟨.slc n 0 m, [(n, some ⟨news, e⟩)], rd, c && decide (m * i.bytes ≤ 140737488355328 ∧ m ≤ maxLen)⟩
          | .slc k o len => match h k with
            | some b => bif Nat.beq o 0 && decide (b.ety = e) then
                some ⟨.slc n 0 (len + m), [(k, none), (n, some ⟨b.cells ++ news, e⟩)], k :: rd,
                  c && news.all AV.one && decide (b.cells.length = len * i.size ∧ (len + m) * i.bytes ≤ 140737488355328 ∧ len + m ≤ maxLen)⟩ else none
            | none => none
          | _ => none
      else none
    | _, _ => none

def loadOp (P : Program) (t : TypeId) (a : AV) (h : AHeap) : Option Eff :=
  match a with
  | .ptr i off => match h i with
    | some b => match loadV P t b.cells off with
      | some (v, c) => some ⟨v, [], [i], c⟩
      | none => none
    | none => none
  | .sptr cells off => match loadV P t cells off with
    | some (v, c) => purIf v c
    | none => none
  | _ => none

def storeOp (P : Program) (t : TypeId) (a v : AV) (h : AHeap) : Option Eff :=
  match a with
  | .ptr i off => match h i with
    | some b => bif Nat.beq v.cells.length (esz P t) && Nat.blt 0 (esz P t) then
        some ⟨.undef, [(i, some ⟨setL b.cells off v.cells, b.ety⟩)], [i], Nat.ble (off + v.cells.length) b.cells.length && v.cells.all AV.one⟩ else none
    | none => none
  | _ => none

end Go.Eng

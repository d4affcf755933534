/-
  No cell of these rows narrows 'for every input' (looked for: loops, veiled, ifaces, maps, wideKeys, modest, calm, conditions, laid).
  DERIVED. THE GIVEN ROWS OF THIS SEAT. 14 by the template 'for every input the law returns true; each argument reads behind the call as it read before'; 0 by the template 'total and deterministic' (their statements: YtcigcfneldipkaaTotals.lean).
  GIVEN WITH THE SEED: the statements are not yours to turn. If you find one false, say at which input.
  Laid BY PROGRAM, IN A SANDBOX (cutbox-rows.mjs): the forced cells as the released guide's own fill.sh prints them over the translation 32a3d5c3a3215562… (all of the seat's roots in one cut). By AI agents, Wed Nov 11 2026. No macro, syntax, notation, axiom, sorry.
-/
import Derived.Test.YtcigcfneldipkaaChecked
import GoSem.Claim
import GoSem.ClaimJoined
import GoSem.ClaimMapViews
import Derived.JoinedTies
import Derived.KernelRfl
namespace Go.Proofs.Ytcigcfneldipkaa
/- THE CELL 'sum', in the pinned program and in every row, IS THE sha256 OF THE DUMP (.gsa) THAT YtcigcfneldipkaaProg.lean LOADS. Nothing in Lean hashes anything: it is a label: what it is worth is what the hold of that sum in a sandbox is worth. -/
noncomputable def Try.pinned : Pinned := { name := "ytcigcfneldipkaa", sum := "32a3d5c3a3215562612c525a89afdb88c06ffcb577a57a687fa6a04d1968f81b", checked := Try.checked }
namespace Rows
def none {H : Type} : Left H := { results := [], args := [] }

/-- 'envelopelaw2.IvMany': WHATEVER THE INPUT: true; the input reads as it did. -/
def ivManySpec : ChangeSpec := { name := "ivMany", fn := fun _ => fun
  | [d] => { results := [.lit (.bool true)], args := [d] }
  | _ => none }
def ivManyRow : OpenClaim := { program := "ytcigcfneldipkaa", sum := "32a3d5c3a3215562612c525a89afdb88c06ffcb577a57a687fa6a04d1968f81b", func := "envelope/envelopelaw2.IvMany", spec := "ivMany", inPlace := ["math.Float64frombits", "math.Float64bits"], unfollowed := true, recurses := true, apart := false }
def IvManySaid : Prop := ivManyRow.holds Try.pinned (OpenSpec.ofChange ivManySpec)

/-- ITS FALSE NEIGHBOUR: 'it returns false'. Refute it at one input. -/
def ivManyWrong : ChangeSpec := { name := "ivMany", fn := fun _ => fun
  | [d] => { results := [.lit (.bool false)], args := [d] }
  | _ => none }
def IvManyWrongFalsely : Prop := ivManyRow.holds Try.pinned (OpenSpec.ofChange ivManyWrong)

/-- 'envelopelaw8.NordOwn': WHATEVER THE INPUT: true; the input reads as it did. -/
def nordOwnSpec : ChangeSpec := { name := "nordOwn", fn := fun _ => fun
  | [d1, d2, d3, d4] => { results := [.lit (.bool true)], args := [d1, d2, d3, d4] }
  | _ => none }
def nordOwnRow : OpenClaim := { program := "ytcigcfneldipkaa", sum := "32a3d5c3a3215562612c525a89afdb88c06ffcb577a57a687fa6a04d1968f81b", func := "envelope/envelopelaw8.NordOwn", spec := "nordOwn", inPlace := ["math.Float64bits", "math.Float64frombits"], unfollowed := true, recurses := true, apart := false }
def NordOwnSaid : Prop := nordOwnRow.holds Try.pinned (OpenSpec.ofChange nordOwnSpec)

/-- ITS FALSE NEIGHBOUR: 'it returns false'. Refute it at one input. -/
def nordOwnWrong : ChangeSpec := { name := "nordOwn", fn := fun _ => fun
  | [d1, d2, d3, d4] => { results := [.lit (.bool false)], args := [d1, d2, d3, d4] }
  | _ => none }
def NordOwnWrongFalsely : Prop := nordOwnRow.holds Try.pinned (OpenSpec.ofChange nordOwnWrong)

/-- 'envelopelaw5.ModelLine': WHATEVER THE INPUT: true; the input reads as it did. -/
def modelLineSpec : ChangeSpec := { name := "modelLine", fn := fun _ => fun
  | [d1, d2] => { results := [.lit (.bool true)], args := [d1, d2] }
  | _ => none }
def modelLineRow : OpenClaim := { program := "ytcigcfneldipkaa", sum := "32a3d5c3a3215562612c525a89afdb88c06ffcb577a57a687fa6a04d1968f81b", func := "envelope/envelopelaw5.ModelLine", spec := "modelLine", inPlace := ["math.Float64frombits", "math.Float64bits"], unfollowed := true, recurses := true, apart := false }
def ModelLineSaid : Prop := modelLineRow.holds Try.pinned (OpenSpec.ofChange modelLineSpec)

/-- ITS FALSE NEIGHBOUR: 'it returns false'. Refute it at one input. -/
def modelLineWrong : ChangeSpec := { name := "modelLine", fn := fun _ => fun
  | [d1, d2] => { results := [.lit (.bool false)], args := [d1, d2] }
  | _ => none }
def ModelLineWrongFalsely : Prop := modelLineRow.holds Try.pinned (OpenSpec.ofChange modelLineWrong)

/-- 'envelopelaw3.TapeChecks': WHATEVER THE INPUT: true; the input reads as it did. -/
def tapeChecksSpec : ChangeSpec := { name := "tapeChecks", fn := fun _ => fun
  | [d1, d2, d3, d4, d5, d6] => { results := [.lit (.bool true)], args := [d1, d2, d3, d4, d5, d6] }
  | _ => none }
def tapeChecksRow : OpenClaim := { program := "ytcigcfneldipkaa", sum := "32a3d5c3a3215562612c525a89afdb88c06ffcb577a57a687fa6a04d1968f81b", func := "envelope/envelopelaw3.TapeChecks", spec := "tapeChecks", inPlace := ["math.Float64bits", "math.Float64frombits"], unfollowed := true, recurses := true, apart := false }
def TapeChecksSaid : Prop := tapeChecksRow.holds Try.pinned (OpenSpec.ofChange tapeChecksSpec)

/-- ITS FALSE NEIGHBOUR: 'it returns false'. Refute it at one input. -/
def tapeChecksWrong : ChangeSpec := { name := "tapeChecks", fn := fun _ => fun
  | [d1, d2, d3, d4, d5, d6] => { results := [.lit (.bool false)], args := [d1, d2, d3, d4, d5, d6] }
  | _ => none }
def TapeChecksWrongFalsely : Prop := tapeChecksRow.holds Try.pinned (OpenSpec.ofChange tapeChecksWrong)

/-- 'envelopelaw8.NordAll': WHATEVER THE INPUT: true; the input reads as it did. -/
def nordAllSpec : ChangeSpec := { name := "nordAll", fn := fun _ => fun
  | [d1, d2, d3, d4, d5, d6, d7, d8] => { results := [.lit (.bool true)], args := [d1, d2, d3, d4, d5, d6, d7, d8] }
  | _ => none }
def nordAllRow : OpenClaim := { program := "ytcigcfneldipkaa", sum := "32a3d5c3a3215562612c525a89afdb88c06ffcb577a57a687fa6a04d1968f81b", func := "envelope/envelopelaw8.NordAll", spec := "nordAll", inPlace := ["math.Float64bits", "math.Float64frombits"], unfollowed := true, recurses := true, apart := false }
def NordAllSaid : Prop := nordAllRow.holds Try.pinned (OpenSpec.ofChange nordAllSpec)

/-- ITS FALSE NEIGHBOUR: 'it returns false'. Refute it at one input. -/
def nordAllWrong : ChangeSpec := { name := "nordAll", fn := fun _ => fun
  | [d1, d2, d3, d4, d5, d6, d7, d8] => { results := [.lit (.bool false)], args := [d1, d2, d3, d4, d5, d6, d7, d8] }
  | _ => none }
def NordAllWrongFalsely : Prop := nordAllRow.holds Try.pinned (OpenSpec.ofChange nordAllWrong)

/-- 'envelopelaw4.JacSums': WHATEVER THE INPUT: true; the input reads as it did. -/
def jacSumsSpec : ChangeSpec := { name := "jacSums", fn := fun _ => fun
  | [d1, d2, d3, d4] => { results := [.lit (.bool true)], args := [d1, d2, d3, d4] }
  | _ => none }
def jacSumsRow : OpenClaim := { program := "ytcigcfneldipkaa", sum := "32a3d5c3a3215562612c525a89afdb88c06ffcb577a57a687fa6a04d1968f81b", func := "envelope/envelopelaw4.JacSums", spec := "jacSums", inPlace := ["math.Float64frombits", "math.Float64bits"], unfollowed := true, recurses := true, apart := false }
def JacSumsSaid : Prop := jacSumsRow.holds Try.pinned (OpenSpec.ofChange jacSumsSpec)

/-- ITS FALSE NEIGHBOUR: 'it returns false'. Refute it at one input. -/
def jacSumsWrong : ChangeSpec := { name := "jacSums", fn := fun _ => fun
  | [d1, d2, d3, d4] => { results := [.lit (.bool false)], args := [d1, d2, d3, d4] }
  | _ => none }
def JacSumsWrongFalsely : Prop := jacSumsRow.holds Try.pinned (OpenSpec.ofChange jacSumsWrong)

/-- 'envelopelaw4.JacLines': WHATEVER THE INPUT: true; the input reads as it did. -/
def jacLinesSpec : ChangeSpec := { name := "jacLines", fn := fun _ => fun
  | [d1, d2, d3] => { results := [.lit (.bool true)], args := [d1, d2, d3] }
  | _ => none }
def jacLinesRow : OpenClaim := { program := "ytcigcfneldipkaa", sum := "32a3d5c3a3215562612c525a89afdb88c06ffcb577a57a687fa6a04d1968f81b", func := "envelope/envelopelaw4.JacLines", spec := "jacLines", inPlace := ["math.Float64frombits", "math.Float64bits"], unfollowed := true, recurses := true, apart := false }
def JacLinesSaid : Prop := jacLinesRow.holds Try.pinned (OpenSpec.ofChange jacLinesSpec)

/-- ITS FALSE NEIGHBOUR: 'it returns false'. Refute it at one input. -/
def jacLinesWrong : ChangeSpec := { name := "jacLines", fn := fun _ => fun
  | [d1, d2, d3] => { results := [.lit (.bool false)], args := [d1, d2, d3] }
  | _ => none }
def JacLinesWrongFalsely : Prop := jacLinesRow.holds Try.pinned (OpenSpec.ofChange jacLinesWrong)

/-- 'envelopelaw4.JacTurns': WHATEVER THE INPUT: true; the input reads as it did. -/
def jacTurnsSpec : ChangeSpec := { name := "jacTurns", fn := fun _ => fun
  | [d1, d2, d3, d4] => { results := [.lit (.bool true)], args := [d1, d2, d3, d4] }
  | _ => none }
def jacTurnsRow : OpenClaim := { program := "ytcigcfneldipkaa", sum := "32a3d5c3a3215562612c525a89afdb88c06ffcb577a57a687fa6a04d1968f81b", func := "envelope/envelopelaw4.JacTurns", spec := "jacTurns", inPlace := ["math.Float64frombits", "math.Float64bits"], unfollowed := true, recurses := true, apart := false }
def JacTurnsSaid : Prop := jacTurnsRow.holds Try.pinned (OpenSpec.ofChange jacTurnsSpec)

/-- ITS FALSE NEIGHBOUR: 'it returns false'. Refute it at one input. -/
def jacTurnsWrong : ChangeSpec := { name := "jacTurns", fn := fun _ => fun
  | [d1, d2, d3, d4] => { results := [.lit (.bool false)], args := [d1, d2, d3, d4] }
  | _ => none }
def JacTurnsWrongFalsely : Prop := jacTurnsRow.holds Try.pinned (OpenSpec.ofChange jacTurnsWrong)

/-- 'envelopelaw4.JacOwn': WHATEVER THE INPUT: true; the input reads as it did. -/
def jacOwnSpec : ChangeSpec := { name := "jacOwn", fn := fun _ => fun
  | [d1, d2, d3, d4] => { results := [.lit (.bool true)], args := [d1, d2, d3, d4] }
  | _ => none }
def jacOwnRow : OpenClaim := { program := "ytcigcfneldipkaa", sum := "32a3d5c3a3215562612c525a89afdb88c06ffcb577a57a687fa6a04d1968f81b", func := "envelope/envelopelaw4.JacOwn", spec := "jacOwn", inPlace := ["math.Float64frombits", "math.Float64bits"], unfollowed := true, recurses := true, apart := false }
def JacOwnSaid : Prop := jacOwnRow.holds Try.pinned (OpenSpec.ofChange jacOwnSpec)

/-- ITS FALSE NEIGHBOUR: 'it returns false'. Refute it at one input. -/
def jacOwnWrong : ChangeSpec := { name := "jacOwn", fn := fun _ => fun
  | [d1, d2, d3, d4] => { results := [.lit (.bool false)], args := [d1, d2, d3, d4] }
  | _ => none }
def JacOwnWrongFalsely : Prop := jacOwnRow.holds Try.pinned (OpenSpec.ofChange jacOwnWrong)

/-- 'envelopelaw5.ModelEvals': WHATEVER THE INPUT: true; the input reads as it did. -/
def modelEvalsSpec : ChangeSpec := { name := "modelEvals", fn := fun _ => fun
  | [d1, d2, d3, d4, d5, d6] => { results := [.lit (.bool true)], args := [d1, d2, d3, d4, d5, d6] }
  | _ => none }
def modelEvalsRow : OpenClaim := { program := "ytcigcfneldipkaa", sum := "32a3d5c3a3215562612c525a89afdb88c06ffcb577a57a687fa6a04d1968f81b", func := "envelope/envelopelaw5.ModelEvals", spec := "modelEvals", inPlace := ["math.Float64frombits", "math.Float64bits"], unfollowed := true, recurses := true, apart := false }
def ModelEvalsSaid : Prop := modelEvalsRow.holds Try.pinned (OpenSpec.ofChange modelEvalsSpec)

/-- ITS FALSE NEIGHBOUR: 'it returns false'. Refute it at one input. -/
def modelEvalsWrong : ChangeSpec := { name := "modelEvals", fn := fun _ => fun
  | [d1, d2, d3, d4, d5, d6] => { results := [.lit (.bool false)], args := [d1, d2, d3, d4, d5, d6] }
  | _ => none }
def ModelEvalsWrongFalsely : Prop := modelEvalsRow.holds Try.pinned (OpenSpec.ofChange modelEvalsWrong)

/-- 'envelopelaw3.TapeHolds': WHATEVER THE INPUT: true; the input reads as it did. -/
def tapeHoldsSpec : ChangeSpec := { name := "tapeHolds", fn := fun _ => fun
  | [d1, d2, d3, d4] => { results := [.lit (.bool true)], args := [d1, d2, d3, d4] }
  | _ => none }
def tapeHoldsRow : OpenClaim := { program := "ytcigcfneldipkaa", sum := "32a3d5c3a3215562612c525a89afdb88c06ffcb577a57a687fa6a04d1968f81b", func := "envelope/envelopelaw3.TapeHolds", spec := "tapeHolds", inPlace := ["math.Float64bits", "math.Float64frombits", "math.archFloor", "math.archTrunc"], unfollowed := true, recurses := true, apart := false }
def TapeHoldsSaid : Prop := tapeHoldsRow.holds Try.pinned (OpenSpec.ofChange tapeHoldsSpec)

/-- ITS FALSE NEIGHBOUR: 'it returns false'. Refute it at one input. -/
def tapeHoldsWrong : ChangeSpec := { name := "tapeHolds", fn := fun _ => fun
  | [d1, d2, d3, d4] => { results := [.lit (.bool false)], args := [d1, d2, d3, d4] }
  | _ => none }
def TapeHoldsWrongFalsely : Prop := tapeHoldsRow.holds Try.pinned (OpenSpec.ofChange tapeHoldsWrong)

/-- 'envelopelaw4.JacHolds': WHATEVER THE INPUT: true; the input reads as it did. -/
def jacHoldsSpec : ChangeSpec := { name := "jacHolds", fn := fun _ => fun
  | [d1, d2, d3, d4] => { results := [.lit (.bool true)], args := [d1, d2, d3, d4] }
  | _ => none }
def jacHoldsRow : OpenClaim := { program := "ytcigcfneldipkaa", sum := "32a3d5c3a3215562612c525a89afdb88c06ffcb577a57a687fa6a04d1968f81b", func := "envelope/envelopelaw4.JacHolds", spec := "jacHolds", inPlace := ["math.Float64frombits", "math.Float64bits", "math.archFloor", "math.archTrunc"], unfollowed := true, recurses := true, apart := false }
def JacHoldsSaid : Prop := jacHoldsRow.holds Try.pinned (OpenSpec.ofChange jacHoldsSpec)

/-- ITS FALSE NEIGHBOUR: 'it returns false'. Refute it at one input. -/
def jacHoldsWrong : ChangeSpec := { name := "jacHolds", fn := fun _ => fun
  | [d1, d2, d3, d4] => { results := [.lit (.bool false)], args := [d1, d2, d3, d4] }
  | _ => none }
def JacHoldsWrongFalsely : Prop := jacHoldsRow.holds Try.pinned (OpenSpec.ofChange jacHoldsWrong)

/-- 'envelopelaw4.JacAll': WHATEVER THE INPUT: true; the input reads as it did. -/
def jacAllSpec : ChangeSpec := { name := "jacAll", fn := fun _ => fun
  | [d1, d2, d3, d4, d5, d6, d7] => { results := [.lit (.bool true)], args := [d1, d2, d3, d4, d5, d6, d7] }
  | _ => none }
def jacAllRow : OpenClaim := { program := "ytcigcfneldipkaa", sum := "32a3d5c3a3215562612c525a89afdb88c06ffcb577a57a687fa6a04d1968f81b", func := "envelope/envelopelaw4.JacAll", spec := "jacAll", inPlace := ["math.Float64frombits", "math.Float64bits"], unfollowed := true, recurses := true, apart := false }
def JacAllSaid : Prop := jacAllRow.holds Try.pinned (OpenSpec.ofChange jacAllSpec)

/-- ITS FALSE NEIGHBOUR: 'it returns false'. Refute it at one input. -/
def jacAllWrong : ChangeSpec := { name := "jacAll", fn := fun _ => fun
  | [d1, d2, d3, d4, d5, d6, d7] => { results := [.lit (.bool false)], args := [d1, d2, d3, d4, d5, d6, d7] }
  | _ => none }
def JacAllWrongFalsely : Prop := jacAllRow.holds Try.pinned (OpenSpec.ofChange jacAllWrong)

/-- 'envelopelaw5.ModelPoints': WHATEVER THE INPUT: true; the input reads as it did. -/
def modelPointsSpec : ChangeSpec := { name := "modelPoints", fn := fun _ => fun
  | [d1, d2, d3] => { results := [.lit (.bool true)], args := [d1, d2, d3] }
  | _ => none }
def modelPointsRow : OpenClaim := { program := "ytcigcfneldipkaa", sum := "32a3d5c3a3215562612c525a89afdb88c06ffcb577a57a687fa6a04d1968f81b", func := "envelope/envelopelaw5.ModelPoints", spec := "modelPoints", inPlace := ["math.Float64frombits", "math.Float64bits", "math.archFloor", "math.archTrunc"], unfollowed := true, recurses := true, apart := false }
def ModelPointsSaid : Prop := modelPointsRow.holds Try.pinned (OpenSpec.ofChange modelPointsSpec)

/-- ITS FALSE NEIGHBOUR: 'it returns false'. Refute it at one input. -/
def modelPointsWrong : ChangeSpec := { name := "modelPoints", fn := fun _ => fun
  | [d1, d2, d3] => { results := [.lit (.bool false)], args := [d1, d2, d3] }
  | _ => none }
def ModelPointsWrongFalsely : Prop := modelPointsRow.holds Try.pinned (OpenSpec.ofChange modelPointsWrong)

/- THE SECOND FORM. 'bulk': how many values and letters a reading holds, each counted each time it is reached (what is shared counts as often as it is met; a slice's spare places count too). A statement '..UptoSaid' is the law's where the arguments, and the package variables that the reading takes, are together of bulk at most 1048576: NARROWER than '..Said'. Prove '..Said' where nothing that the law and all that it calls make is longer than what came in: it says more and counts as full. Else prove '..UptoSaid'. A law counts once. -/
mutual
def uptoBulk {H : Type} : DataW H → Nat
  | .lit (.string bytes) => bytes.length + 1
  | .lit _ => 1
  | .nil => 1
  | .ptr d => uptoBulk d + 1
  | .slice elems spare => uptoBulkAll elems + uptoBulkAll spare + 1
  | .agg parts => uptoBulkAll parts + 1
  | .iface _ d => uptoBulk d + 1
  | .map entries => uptoBulkEntries entries + 1
  | .held _ => 1
def uptoBulkAll {H : Type} : List (DataW H) → Nat
  | [] => 0
  | d :: r => uptoBulk d + uptoBulkAll r
def uptoBulkEntries {H : Type} : List (Lit × DataW H) → Nat
  | [] => 0
  | x :: r => uptoBulkEntry x + uptoBulkEntries r
def uptoBulkEntry {H : Type} : Lit × DataW H → Nat
  | (.string bytes, d) => bytes.length + uptoBulk d + 1
  | (_, d) => uptoBulk d + 1
 end
def uptoSmall : (H : Type) → List (DataW H) → Bool := fun _ ds => decide (uptoBulkAll ds ≤ 1048576)
def OpenSpec.upto (s : _root_.Go.ChangeSpec) : _root_.Go.OpenSpec := { _root_.Go.OpenSpec.ofChange s with cond := some uptoSmall }

/-- 'envelopelaw2.IvMany', WHERE WHAT IT READS IS OF BULK AT MOST 1048576: true; the input reads as it did. -/
def ivManyUptoRow : OpenClaim := { program := "ytcigcfneldipkaa", sum := "32a3d5c3a3215562612c525a89afdb88c06ffcb577a57a687fa6a04d1968f81b", func := "envelope/envelopelaw2.IvMany", spec := "ivMany", inPlace := ["math.Float64frombits", "math.Float64bits"], unfollowed := true, recurses := true, apart := false, narrowed := true }
def IvManyUptoSaid : Prop := ivManyUptoRow.holds Try.pinned (OpenSpec.upto ivManySpec)

/-- 'envelopelaw8.NordOwn', WHERE WHAT IT READS IS OF BULK AT MOST 1048576: true; the input reads as it did. -/
def nordOwnUptoRow : OpenClaim := { program := "ytcigcfneldipkaa", sum := "32a3d5c3a3215562612c525a89afdb88c06ffcb577a57a687fa6a04d1968f81b", func := "envelope/envelopelaw8.NordOwn", spec := "nordOwn", inPlace := ["math.Float64bits", "math.Float64frombits"], unfollowed := true, recurses := true, apart := false, narrowed := true }
def NordOwnUptoSaid : Prop := nordOwnUptoRow.holds Try.pinned (OpenSpec.upto nordOwnSpec)

/-- 'envelopelaw5.ModelLine', WHERE WHAT IT READS IS OF BULK AT MOST 1048576: true; the input reads as it did. -/
def modelLineUptoRow : OpenClaim := { program := "ytcigcfneldipkaa", sum := "32a3d5c3a3215562612c525a89afdb88c06ffcb577a57a687fa6a04d1968f81b", func := "envelope/envelopelaw5.ModelLine", spec := "modelLine", inPlace := ["math.Float64frombits", "math.Float64bits"], unfollowed := true, recurses := true, apart := false, narrowed := true }
def ModelLineUptoSaid : Prop := modelLineUptoRow.holds Try.pinned (OpenSpec.upto modelLineSpec)

/-- 'envelopelaw3.TapeChecks', WHERE WHAT IT READS IS OF BULK AT MOST 1048576: true; the input reads as it did. -/
def tapeChecksUptoRow : OpenClaim := { program := "ytcigcfneldipkaa", sum := "32a3d5c3a3215562612c525a89afdb88c06ffcb577a57a687fa6a04d1968f81b", func := "envelope/envelopelaw3.TapeChecks", spec := "tapeChecks", inPlace := ["math.Float64bits", "math.Float64frombits"], unfollowed := true, recurses := true, apart := false, narrowed := true }
def TapeChecksUptoSaid : Prop := tapeChecksUptoRow.holds Try.pinned (OpenSpec.upto tapeChecksSpec)

/-- 'envelopelaw8.NordAll', WHERE WHAT IT READS IS OF BULK AT MOST 1048576: true; the input reads as it did. -/
def nordAllUptoRow : OpenClaim := { program := "ytcigcfneldipkaa", sum := "32a3d5c3a3215562612c525a89afdb88c06ffcb577a57a687fa6a04d1968f81b", func := "envelope/envelopelaw8.NordAll", spec := "nordAll", inPlace := ["math.Float64bits", "math.Float64frombits"], unfollowed := true, recurses := true, apart := false, narrowed := true }
def NordAllUptoSaid : Prop := nordAllUptoRow.holds Try.pinned (OpenSpec.upto nordAllSpec)

/-- 'envelopelaw4.JacSums', WHERE WHAT IT READS IS OF BULK AT MOST 1048576: true; the input reads as it did. -/
def jacSumsUptoRow : OpenClaim := { program := "ytcigcfneldipkaa", sum := "32a3d5c3a3215562612c525a89afdb88c06ffcb577a57a687fa6a04d1968f81b", func := "envelope/envelopelaw4.JacSums", spec := "jacSums", inPlace := ["math.Float64frombits", "math.Float64bits"], unfollowed := true, recurses := true, apart := false, narrowed := true }
def JacSumsUptoSaid : Prop := jacSumsUptoRow.holds Try.pinned (OpenSpec.upto jacSumsSpec)

/-- 'envelopelaw4.JacLines', WHERE WHAT IT READS IS OF BULK AT MOST 1048576: true; the input reads as it did. -/
def jacLinesUptoRow : OpenClaim := { program := "ytcigcfneldipkaa", sum := "32a3d5c3a3215562612c525a89afdb88c06ffcb577a57a687fa6a04d1968f81b", func := "envelope/envelopelaw4.JacLines", spec := "jacLines", inPlace := ["math.Float64frombits", "math.Float64bits"], unfollowed := true, recurses := true, apart := false, narrowed := true }
def JacLinesUptoSaid : Prop := jacLinesUptoRow.holds Try.pinned (OpenSpec.upto jacLinesSpec)

/-- 'envelopelaw4.JacTurns', WHERE WHAT IT READS IS OF BULK AT MOST 1048576: true; the input reads as it did. -/
def jacTurnsUptoRow : OpenClaim := { program := "ytcigcfneldipkaa", sum := "32a3d5c3a3215562612c525a89afdb88c06ffcb577a57a687fa6a04d1968f81b", func := "envelope/envelopelaw4.JacTurns", spec := "jacTurns", inPlace := ["math.Float64frombits", "math.Float64bits"], unfollowed := true, recurses := true, apart := false, narrowed := true }
def JacTurnsUptoSaid : Prop := jacTurnsUptoRow.holds Try.pinned (OpenSpec.upto jacTurnsSpec)

/-- 'envelopelaw4.JacOwn', WHERE WHAT IT READS IS OF BULK AT MOST 1048576: true; the input reads as it did. -/
def jacOwnUptoRow : OpenClaim := { program := "ytcigcfneldipkaa", sum := "32a3d5c3a3215562612c525a89afdb88c06ffcb577a57a687fa6a04d1968f81b", func := "envelope/envelopelaw4.JacOwn", spec := "jacOwn", inPlace := ["math.Float64frombits", "math.Float64bits"], unfollowed := true, recurses := true, apart := false, narrowed := true }
def JacOwnUptoSaid : Prop := jacOwnUptoRow.holds Try.pinned (OpenSpec.upto jacOwnSpec)

/-- 'envelopelaw5.ModelEvals', WHERE WHAT IT READS IS OF BULK AT MOST 1048576: true; the input reads as it did. -/
def modelEvalsUptoRow : OpenClaim := { program := "ytcigcfneldipkaa", sum := "32a3d5c3a3215562612c525a89afdb88c06ffcb577a57a687fa6a04d1968f81b", func := "envelope/envelopelaw5.ModelEvals", spec := "modelEvals", inPlace := ["math.Float64frombits", "math.Float64bits"], unfollowed := true, recurses := true, apart := false, narrowed := true }
def ModelEvalsUptoSaid : Prop := modelEvalsUptoRow.holds Try.pinned (OpenSpec.upto modelEvalsSpec)

/-- 'envelopelaw3.TapeHolds', WHERE WHAT IT READS IS OF BULK AT MOST 1048576: true; the input reads as it did. -/
def tapeHoldsUptoRow : OpenClaim := { program := "ytcigcfneldipkaa", sum := "32a3d5c3a3215562612c525a89afdb88c06ffcb577a57a687fa6a04d1968f81b", func := "envelope/envelopelaw3.TapeHolds", spec := "tapeHolds", inPlace := ["math.Float64bits", "math.Float64frombits", "math.archFloor", "math.archTrunc"], unfollowed := true, recurses := true, apart := false, narrowed := true }
def TapeHoldsUptoSaid : Prop := tapeHoldsUptoRow.holds Try.pinned (OpenSpec.upto tapeHoldsSpec)

/-- 'envelopelaw4.JacHolds', WHERE WHAT IT READS IS OF BULK AT MOST 1048576: true; the input reads as it did. -/
def jacHoldsUptoRow : OpenClaim := { program := "ytcigcfneldipkaa", sum := "32a3d5c3a3215562612c525a89afdb88c06ffcb577a57a687fa6a04d1968f81b", func := "envelope/envelopelaw4.JacHolds", spec := "jacHolds", inPlace := ["math.Float64frombits", "math.Float64bits", "math.archFloor", "math.archTrunc"], unfollowed := true, recurses := true, apart := false, narrowed := true }
def JacHoldsUptoSaid : Prop := jacHoldsUptoRow.holds Try.pinned (OpenSpec.upto jacHoldsSpec)

/-- 'envelopelaw4.JacAll', WHERE WHAT IT READS IS OF BULK AT MOST 1048576: true; the input reads as it did. -/
def jacAllUptoRow : OpenClaim := { program := "ytcigcfneldipkaa", sum := "32a3d5c3a3215562612c525a89afdb88c06ffcb577a57a687fa6a04d1968f81b", func := "envelope/envelopelaw4.JacAll", spec := "jacAll", inPlace := ["math.Float64frombits", "math.Float64bits"], unfollowed := true, recurses := true, apart := false, narrowed := true }
def JacAllUptoSaid : Prop := jacAllUptoRow.holds Try.pinned (OpenSpec.upto jacAllSpec)

/-- 'envelopelaw5.ModelPoints', WHERE WHAT IT READS IS OF BULK AT MOST 1048576: true; the input reads as it did. -/
def modelPointsUptoRow : OpenClaim := { program := "ytcigcfneldipkaa", sum := "32a3d5c3a3215562612c525a89afdb88c06ffcb577a57a687fa6a04d1968f81b", func := "envelope/envelopelaw5.ModelPoints", spec := "modelPoints", inPlace := ["math.Float64frombits", "math.Float64bits", "math.archFloor", "math.archTrunc"], unfollowed := true, recurses := true, apart := false, narrowed := true }
def ModelPointsUptoSaid : Prop := modelPointsUptoRow.holds Try.pinned (OpenSpec.upto modelPointsSpec)

end Rows
end Go.Proofs.Ytcigcfneldipkaa

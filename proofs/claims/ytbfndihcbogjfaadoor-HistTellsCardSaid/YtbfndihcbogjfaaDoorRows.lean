/-
  NARROWER THAN 'FOR EVERY INPUT', by the rows' own cells (each row's printed sentence says how): HistTells: laid · HistParts: laid · HistMarks: laid · ReplayBegins: laid · ReplayBreaks: laid · ReplayBacks: laid · ReplayMoves: laid · ReplayLast: laid · ReplayEnds: laid.
  DERIVED. THE GIVEN ROWS OF THIS SEAT. 9 by the template 'for every input the law returns true; each argument reads behind the call as it read before'; 0 by the template 'total and deterministic' (their statements: YtbfndihcbogjfaaDoorTotals.lean).
  GIVEN WITH THE SEED: the statements are not yours to turn. If you find one false, say at which input.
  Laid BY PROGRAM, IN A SANDBOX (cutbox-rows.mjs): the forced cells as the released guide's own fill.sh prints them over the translation 3305582e02aeaef8… (all of the seat's roots in one cut). By AI agents, Wed Nov 11 2026. No macro, syntax, notation, axiom, sorry.
-/
import Derived.Test.YtbfndihcbogjfaaDoorChecked
import GoSem.Claim
import GoSem.ClaimJoined
import GoSem.ClaimMapViews
import Derived.JoinedTies
import Derived.KernelRfl
namespace Go.Proofs.YtbfndihcbogjfaaDoor
/- THE CELL 'sum', in the pinned program and in every row, IS THE sha256 OF THE DUMP (.gsa) THAT YtbfndihcbogjfaaDoorProg.lean LOADS. Nothing in Lean hashes anything: it is a label: what it is worth is what the hold of that sum in a sandbox is worth. -/
noncomputable def Tryd.pinned : Pinned := { name := "ytbfndihcbogjfaadoor", sum := "3305582e02aeaef8ec797f75bfb363f36978aaac6c550eca480d81f34b04e0d3", checked := Tryd.checked }
namespace Rows
def none {H : Type} : Left H := { results := [], args := [] }

/- WHAT THE LISTED PACKAGE-LEVEL VARIABLES READ AS WHEN THE CALL BEGINS. Each datum BY PROGRAM (the guide's laid-datum.mjs) off the statement by which the dump's own 'gosem.cut.vars' lays the variable. In a bare row this is a premise. The card (YtbfndihcbogjfaaDoorCards.lean) ties it to the program's text. -/
def laid_math_bits_deBruijn32tab {H : Type} : DataW H := .agg [.lit (.int .u8 0), .lit (.int .u8 1), .lit (.int .u8 28), .lit (.int .u8 2), .lit (.int .u8 29), .lit (.int .u8 14), .lit (.int .u8 24), .lit (.int .u8 3), .lit (.int .u8 30), .lit (.int .u8 22), .lit (.int .u8 20), .lit (.int .u8 15), .lit (.int .u8 25), .lit (.int .u8 17), .lit (.int .u8 4), .lit (.int .u8 8), .lit (.int .u8 31), .lit (.int .u8 27), .lit (.int .u8 13), .lit (.int .u8 23), .lit (.int .u8 21), .lit (.int .u8 19), .lit (.int .u8 16), .lit (.int .u8 7), .lit (.int .u8 26), .lit (.int .u8 12), .lit (.int .u8 18), .lit (.int .u8 6), .lit (.int .u8 11), .lit (.int .u8 5), .lit (.int .u8 10), .lit (.int .u8 9)]
def laid_math_bits_deBruijn64tab {H : Type} : DataW H := .agg [.lit (.int .u8 0), .lit (.int .u8 1), .lit (.int .u8 56), .lit (.int .u8 2), .lit (.int .u8 57), .lit (.int .u8 49), .lit (.int .u8 28), .lit (.int .u8 3), .lit (.int .u8 61), .lit (.int .u8 58), .lit (.int .u8 42), .lit (.int .u8 50), .lit (.int .u8 38), .lit (.int .u8 29), .lit (.int .u8 17), .lit (.int .u8 4), .lit (.int .u8 62), .lit (.int .u8 47), .lit (.int .u8 59), .lit (.int .u8 36), .lit (.int .u8 45), .lit (.int .u8 43), .lit (.int .u8 51), .lit (.int .u8 22), .lit (.int .u8 53), .lit (.int .u8 39), .lit (.int .u8 33), .lit (.int .u8 30), .lit (.int .u8 24), .lit (.int .u8 18), .lit (.int .u8 12), .lit (.int .u8 5), .lit (.int .u8 63), .lit (.int .u8 55), .lit (.int .u8 48), .lit (.int .u8 27), .lit (.int .u8 60), .lit (.int .u8 41), .lit (.int .u8 37), .lit (.int .u8 16), .lit (.int .u8 46), .lit (.int .u8 35), .lit (.int .u8 44), .lit (.int .u8 21), .lit (.int .u8 52), .lit (.int .u8 32), .lit (.int .u8 23), .lit (.int .u8 11), .lit (.int .u8 54), .lit (.int .u8 26), .lit (.int .u8 40), .lit (.int .u8 15), .lit (.int .u8 34), .lit (.int .u8 20), .lit (.int .u8 31), .lit (.int .u8 10), .lit (.int .u8 25), .lit (.int .u8 14), .lit (.int .u8 19), .lit (.int .u8 9), .lit (.int .u8 13), .lit (.int .u8 8), .lit (.int .u8 7), .lit (.int .u8 6)]
def laid_internal_strconv_uint64pow10 {H : Type} : DataW H := .agg [.lit (.int .u64 1), .lit (.int .u64 10), .lit (.int .u64 100), .lit (.int .u64 1000), .lit (.int .u64 10000), .lit (.int .u64 100000), .lit (.int .u64 1000000), .lit (.int .u64 10000000), .lit (.int .u64 100000000), .lit (.int .u64 1000000000), .lit (.int .u64 10000000000), .lit (.int .u64 100000000000), .lit (.int .u64 1000000000000), .lit (.int .u64 10000000000000), .lit (.int .u64 100000000000000), .lit (.int .u64 1000000000000000), .lit (.int .u64 10000000000000000), .lit (.int .u64 100000000000000000), .lit (.int .u64 1000000000000000000), .lit (.int .u64 10000000000000000000)]
def laid_errors_errorType {H : Type} : DataW H := .iface "internal/reflectlite.rtype" (.agg [.ptr (.lit (.string [101, 114, 114, 111, 114]))])

/-- 'tholelaw20.HistTells': WHATEVER THE INPUT: true; the input reads as it did. -/
def histTellsSpec : ChangeSpec := { name := "histTells", fn := fun _ => fun
  | [d1, d2, d3] => { results := [.lit (.bool true)], args := [d1, d2, d3] }
  | _ => none }
def histTellsRow : OpenClaim := { program := "ytbfndihcbogjfaadoor", sum := "3305582e02aeaef8ec797f75bfb363f36978aaac6c550eca480d81f34b04e0d3", func := "thole/tholelaw20.HistTells", spec := "histTells", inPlace := ["internal/abi.NoEscape"], recurses := true, named := ["internal/strconv.uint64pow10", "math/bits.deBruijn32tab", "math/bits.deBruijn64tab"], apart := false, laid := [("math/bits.deBruijn32tab", laid_math_bits_deBruijn32tab), ("math/bits.deBruijn64tab", laid_math_bits_deBruijn64tab), ("internal/strconv.uint64pow10", laid_internal_strconv_uint64pow10)] }
def HistTellsSaid : Prop := histTellsRow.holds Tryd.pinned (OpenSpec.ofChange histTellsSpec)

/-- ITS FALSE NEIGHBOUR: 'it returns false'. Refute it at one input. -/
def histTellsWrong : ChangeSpec := { name := "histTells", fn := fun _ => fun
  | [d1, d2, d3] => { results := [.lit (.bool false)], args := [d1, d2, d3] }
  | _ => none }
def HistTellsWrongFalsely : Prop := histTellsRow.holds Tryd.pinned (OpenSpec.ofChange histTellsWrong)

/-- 'tholelaw20.HistParts': WHATEVER THE INPUT: true; the input reads as it did. -/
def histPartsSpec : ChangeSpec := { name := "histParts", fn := fun _ => fun
  | [d1, d2, d3] => { results := [.lit (.bool true)], args := [d1, d2, d3] }
  | _ => none }
def histPartsRow : OpenClaim := { program := "ytbfndihcbogjfaadoor", sum := "3305582e02aeaef8ec797f75bfb363f36978aaac6c550eca480d81f34b04e0d3", func := "thole/tholelaw20.HistParts", spec := "histParts", inPlace := ["internal/abi.NoEscape"], named := ["internal/strconv.uint64pow10", "math/bits.deBruijn32tab", "math/bits.deBruijn64tab"], apart := false, laid := [("math/bits.deBruijn32tab", laid_math_bits_deBruijn32tab), ("math/bits.deBruijn64tab", laid_math_bits_deBruijn64tab), ("internal/strconv.uint64pow10", laid_internal_strconv_uint64pow10)] }
def HistPartsSaid : Prop := histPartsRow.holds Tryd.pinned (OpenSpec.ofChange histPartsSpec)

/-- ITS FALSE NEIGHBOUR: 'it returns false'. Refute it at one input. -/
def histPartsWrong : ChangeSpec := { name := "histParts", fn := fun _ => fun
  | [d1, d2, d3] => { results := [.lit (.bool false)], args := [d1, d2, d3] }
  | _ => none }
def HistPartsWrongFalsely : Prop := histPartsRow.holds Tryd.pinned (OpenSpec.ofChange histPartsWrong)

/-- 'tholelaw20.HistMarks': WHATEVER THE INPUT: true; the input reads as it did. -/
def histMarksSpec : ChangeSpec := { name := "histMarks", fn := fun _ => fun
  | [d1, d2] => { results := [.lit (.bool true)], args := [d1, d2] }
  | _ => none }
def histMarksRow : OpenClaim := { program := "ytbfndihcbogjfaadoor", sum := "3305582e02aeaef8ec797f75bfb363f36978aaac6c550eca480d81f34b04e0d3", func := "thole/tholelaw20.HistMarks", spec := "histMarks", inPlace := ["internal/abi.NoEscape"], named := ["internal/strconv.uint64pow10", "math/bits.deBruijn32tab", "math/bits.deBruijn64tab"], apart := false, laid := [("math/bits.deBruijn32tab", laid_math_bits_deBruijn32tab), ("math/bits.deBruijn64tab", laid_math_bits_deBruijn64tab), ("internal/strconv.uint64pow10", laid_internal_strconv_uint64pow10)] }
def HistMarksSaid : Prop := histMarksRow.holds Tryd.pinned (OpenSpec.ofChange histMarksSpec)

/-- ITS FALSE NEIGHBOUR: 'it returns false'. Refute it at one input. -/
def histMarksWrong : ChangeSpec := { name := "histMarks", fn := fun _ => fun
  | [d1, d2] => { results := [.lit (.bool false)], args := [d1, d2] }
  | _ => none }
def HistMarksWrongFalsely : Prop := histMarksRow.holds Tryd.pinned (OpenSpec.ofChange histMarksWrong)

/-- 'tholelaw11.ReplayBegins': WHATEVER THE INPUT: true; the input reads as it did. -/
def replayBeginsSpec : ChangeSpec := { name := "replayBegins", fn := fun _ => fun
  | [d1, d2, d3] => { results := [.lit (.bool true)], args := [d1, d2, d3] }
  | _ => none }
def replayBeginsRow : OpenClaim := { program := "ytbfndihcbogjfaadoor", sum := "3305582e02aeaef8ec797f75bfb363f36978aaac6c550eca480d81f34b04e0d3", func := "thole/tholelaw11.ReplayBegins", spec := "replayBegins", inPlace := ["internal/reflectlite.ValueOf", "(internal/reflectlite.Value).Type", "(internal/reflectlite.Value).IsNil", "internal/reflectlite.TypeOf", "(internal/reflectlite.Value).Elem", "(internal/reflectlite.Value).Set"], unfollowed := true, recurses := true, named := ["errors.errorType"], apart := false, laid := [("errors.errorType", laid_errors_errorType)] }
def ReplayBeginsSaid : Prop := replayBeginsRow.holds Tryd.pinned (OpenSpec.ofChange replayBeginsSpec)

/-- ITS FALSE NEIGHBOUR: 'it returns false'. Refute it at one input. -/
def replayBeginsWrong : ChangeSpec := { name := "replayBegins", fn := fun _ => fun
  | [d1, d2, d3] => { results := [.lit (.bool false)], args := [d1, d2, d3] }
  | _ => none }
def ReplayBeginsWrongFalsely : Prop := replayBeginsRow.holds Tryd.pinned (OpenSpec.ofChange replayBeginsWrong)

/-- 'tholelaw11.ReplayBreaks': WHATEVER THE INPUT: true; the input reads as it did. -/
def replayBreaksSpec : ChangeSpec := { name := "replayBreaks", fn := fun _ => fun
  | [d1, d2, d3] => { results := [.lit (.bool true)], args := [d1, d2, d3] }
  | _ => none }
def replayBreaksRow : OpenClaim := { program := "ytbfndihcbogjfaadoor", sum := "3305582e02aeaef8ec797f75bfb363f36978aaac6c550eca480d81f34b04e0d3", func := "thole/tholelaw11.ReplayBreaks", spec := "replayBreaks", inPlace := ["internal/reflectlite.ValueOf", "(internal/reflectlite.Value).Type", "(internal/reflectlite.Value).IsNil", "internal/reflectlite.TypeOf", "(internal/reflectlite.Value).Elem", "(internal/reflectlite.Value).Set"], unfollowed := true, recurses := true, named := ["errors.errorType"], apart := false, laid := [("errors.errorType", laid_errors_errorType)] }
def ReplayBreaksSaid : Prop := replayBreaksRow.holds Tryd.pinned (OpenSpec.ofChange replayBreaksSpec)

/-- ITS FALSE NEIGHBOUR: 'it returns false'. Refute it at one input. -/
def replayBreaksWrong : ChangeSpec := { name := "replayBreaks", fn := fun _ => fun
  | [d1, d2, d3] => { results := [.lit (.bool false)], args := [d1, d2, d3] }
  | _ => none }
def ReplayBreaksWrongFalsely : Prop := replayBreaksRow.holds Tryd.pinned (OpenSpec.ofChange replayBreaksWrong)

/-- 'tholelaw11.ReplayBacks': WHATEVER THE INPUT: true; the input reads as it did. -/
def replayBacksSpec : ChangeSpec := { name := "replayBacks", fn := fun _ => fun
  | [d1, d2, d3] => { results := [.lit (.bool true)], args := [d1, d2, d3] }
  | _ => none }
def replayBacksRow : OpenClaim := { program := "ytbfndihcbogjfaadoor", sum := "3305582e02aeaef8ec797f75bfb363f36978aaac6c550eca480d81f34b04e0d3", func := "thole/tholelaw11.ReplayBacks", spec := "replayBacks", inPlace := ["internal/reflectlite.ValueOf", "(internal/reflectlite.Value).Type", "(internal/reflectlite.Value).IsNil", "internal/reflectlite.TypeOf", "(internal/reflectlite.Value).Elem", "(internal/reflectlite.Value).Set"], unfollowed := true, recurses := true, named := ["errors.errorType"], apart := false, laid := [("errors.errorType", laid_errors_errorType)] }
def ReplayBacksSaid : Prop := replayBacksRow.holds Tryd.pinned (OpenSpec.ofChange replayBacksSpec)

/-- ITS FALSE NEIGHBOUR: 'it returns false'. Refute it at one input. -/
def replayBacksWrong : ChangeSpec := { name := "replayBacks", fn := fun _ => fun
  | [d1, d2, d3] => { results := [.lit (.bool false)], args := [d1, d2, d3] }
  | _ => none }
def ReplayBacksWrongFalsely : Prop := replayBacksRow.holds Tryd.pinned (OpenSpec.ofChange replayBacksWrong)

/-- 'tholelaw11.ReplayMoves': WHATEVER THE INPUT: true; the input reads as it did. -/
def replayMovesSpec : ChangeSpec := { name := "replayMoves", fn := fun _ => fun
  | [d1, d2, d3] => { results := [.lit (.bool true)], args := [d1, d2, d3] }
  | _ => none }
def replayMovesRow : OpenClaim := { program := "ytbfndihcbogjfaadoor", sum := "3305582e02aeaef8ec797f75bfb363f36978aaac6c550eca480d81f34b04e0d3", func := "thole/tholelaw11.ReplayMoves", spec := "replayMoves", inPlace := ["internal/reflectlite.ValueOf", "(internal/reflectlite.Value).Type", "(internal/reflectlite.Value).IsNil", "internal/reflectlite.TypeOf", "(internal/reflectlite.Value).Elem", "(internal/reflectlite.Value).Set"], unfollowed := true, recurses := true, named := ["errors.errorType"], apart := false, laid := [("errors.errorType", laid_errors_errorType)] }
def ReplayMovesSaid : Prop := replayMovesRow.holds Tryd.pinned (OpenSpec.ofChange replayMovesSpec)

/-- ITS FALSE NEIGHBOUR: 'it returns false'. Refute it at one input. -/
def replayMovesWrong : ChangeSpec := { name := "replayMoves", fn := fun _ => fun
  | [d1, d2, d3] => { results := [.lit (.bool false)], args := [d1, d2, d3] }
  | _ => none }
def ReplayMovesWrongFalsely : Prop := replayMovesRow.holds Tryd.pinned (OpenSpec.ofChange replayMovesWrong)

/-- 'tholelaw11.ReplayLast': WHATEVER THE INPUT: true; the input reads as it did. -/
def replayLastSpec : ChangeSpec := { name := "replayLast", fn := fun _ => fun
  | [d1, d2, d3] => { results := [.lit (.bool true)], args := [d1, d2, d3] }
  | _ => none }
def replayLastRow : OpenClaim := { program := "ytbfndihcbogjfaadoor", sum := "3305582e02aeaef8ec797f75bfb363f36978aaac6c550eca480d81f34b04e0d3", func := "thole/tholelaw11.ReplayLast", spec := "replayLast", inPlace := ["internal/reflectlite.ValueOf", "(internal/reflectlite.Value).Type", "(internal/reflectlite.Value).IsNil", "internal/reflectlite.TypeOf", "(internal/reflectlite.Value).Elem", "(internal/reflectlite.Value).Set"], unfollowed := true, recurses := true, named := ["errors.errorType"], apart := false, laid := [("errors.errorType", laid_errors_errorType)] }
def ReplayLastSaid : Prop := replayLastRow.holds Tryd.pinned (OpenSpec.ofChange replayLastSpec)

/-- ITS FALSE NEIGHBOUR: 'it returns false'. Refute it at one input. -/
def replayLastWrong : ChangeSpec := { name := "replayLast", fn := fun _ => fun
  | [d1, d2, d3] => { results := [.lit (.bool false)], args := [d1, d2, d3] }
  | _ => none }
def ReplayLastWrongFalsely : Prop := replayLastRow.holds Tryd.pinned (OpenSpec.ofChange replayLastWrong)

/-- 'tholelaw11.ReplayEnds': WHATEVER THE INPUT: true; the input reads as it did. -/
def replayEndsSpec : ChangeSpec := { name := "replayEnds", fn := fun _ => fun
  | [d1, d2, d3] => { results := [.lit (.bool true)], args := [d1, d2, d3] }
  | _ => none }
def replayEndsRow : OpenClaim := { program := "ytbfndihcbogjfaadoor", sum := "3305582e02aeaef8ec797f75bfb363f36978aaac6c550eca480d81f34b04e0d3", func := "thole/tholelaw11.ReplayEnds", spec := "replayEnds", inPlace := ["internal/reflectlite.ValueOf", "(internal/reflectlite.Value).Type", "(internal/reflectlite.Value).IsNil", "internal/reflectlite.TypeOf", "(internal/reflectlite.Value).Elem", "(internal/reflectlite.Value).Set"], unfollowed := true, recurses := true, named := ["errors.errorType"], apart := false, laid := [("errors.errorType", laid_errors_errorType)] }
def ReplayEndsSaid : Prop := replayEndsRow.holds Tryd.pinned (OpenSpec.ofChange replayEndsSpec)

/-- ITS FALSE NEIGHBOUR: 'it returns false'. Refute it at one input. -/
def replayEndsWrong : ChangeSpec := { name := "replayEnds", fn := fun _ => fun
  | [d1, d2, d3] => { results := [.lit (.bool false)], args := [d1, d2, d3] }
  | _ => none }
def ReplayEndsWrongFalsely : Prop := replayEndsRow.holds Tryd.pinned (OpenSpec.ofChange replayEndsWrong)

/- THE SECOND FORM. 'bulk': how many values and letters a reading holds, each counted each time it is reached (what is shared counts as often as it is met; a slice's spare places count too). A statement '..UptoSaid' is the law's where the arguments, and the package variables that the reading takes, are together of bulk at most 1048576: NARROWER than '..Said'. Prove '..Said' where nothing that the law and all that it calls make is longer than what came in: it says more and counts as full. Else prove '..UptoSaid'. A law counts once. -/
mutual
def uptoBulk {H : Type} : DataW H → Nat
  | .lit (.string bytes) => bytes.length + 1
  | .lit _ => 1
  | .nil => 1
  | .ptr d => uptoBulk d + 1
  | .slice elems spare => uptoBulkAll elems + uptoBulkAll spare + 1
  | .agg parts => uptoBulkAll parts + 1
  | .iface _ d => uptoBulk d + 1
  | .map entries => uptoBulkEntries entries + 1
  | .held _ => 1
def uptoBulkAll {H : Type} : List (DataW H) → Nat
  | [] => 0
  | d :: r => uptoBulk d + uptoBulkAll r
def uptoBulkEntries {H : Type} : List (Lit × DataW H) → Nat
  | [] => 0
  | x :: r => uptoBulkEntry x + uptoBulkEntries r
def uptoBulkEntry {H : Type} : Lit × DataW H → Nat
  | (.string bytes, d) => bytes.length + uptoBulk d + 1
  | (_, d) => uptoBulk d + 1
 end
def uptoSmall : (H : Type) → List (DataW H) → Bool := fun _ ds => decide (uptoBulkAll ds ≤ 1048576)
def OpenSpec.upto (s : _root_.Go.ChangeSpec) : _root_.Go.OpenSpec := { _root_.Go.OpenSpec.ofChange s with cond := some uptoSmall }

/-- 'tholelaw20.HistTells', WHERE WHAT IT READS IS OF BULK AT MOST 1048576: true; the input reads as it did. -/
def histTellsUptoRow : OpenClaim := { program := "ytbfndihcbogjfaadoor", sum := "3305582e02aeaef8ec797f75bfb363f36978aaac6c550eca480d81f34b04e0d3", func := "thole/tholelaw20.HistTells", spec := "histTells", inPlace := ["internal/abi.NoEscape"], recurses := true, named := ["internal/strconv.uint64pow10", "math/bits.deBruijn32tab", "math/bits.deBruijn64tab"], apart := false, laid := [("math/bits.deBruijn32tab", laid_math_bits_deBruijn32tab), ("math/bits.deBruijn64tab", laid_math_bits_deBruijn64tab), ("internal/strconv.uint64pow10", laid_internal_strconv_uint64pow10)], narrowed := true }
def HistTellsUptoSaid : Prop := histTellsUptoRow.holds Tryd.pinned (OpenSpec.upto histTellsSpec)

/-- 'tholelaw20.HistParts', WHERE WHAT IT READS IS OF BULK AT MOST 1048576: true; the input reads as it did. -/
def histPartsUptoRow : OpenClaim := { program := "ytbfndihcbogjfaadoor", sum := "3305582e02aeaef8ec797f75bfb363f36978aaac6c550eca480d81f34b04e0d3", func := "thole/tholelaw20.HistParts", spec := "histParts", inPlace := ["internal/abi.NoEscape"], named := ["internal/strconv.uint64pow10", "math/bits.deBruijn32tab", "math/bits.deBruijn64tab"], apart := false, laid := [("math/bits.deBruijn32tab", laid_math_bits_deBruijn32tab), ("math/bits.deBruijn64tab", laid_math_bits_deBruijn64tab), ("internal/strconv.uint64pow10", laid_internal_strconv_uint64pow10)], narrowed := true }
def HistPartsUptoSaid : Prop := histPartsUptoRow.holds Tryd.pinned (OpenSpec.upto histPartsSpec)

/-- 'tholelaw20.HistMarks', WHERE WHAT IT READS IS OF BULK AT MOST 1048576: true; the input reads as it did. -/
def histMarksUptoRow : OpenClaim := { program := "ytbfndihcbogjfaadoor", sum := "3305582e02aeaef8ec797f75bfb363f36978aaac6c550eca480d81f34b04e0d3", func := "thole/tholelaw20.HistMarks", spec := "histMarks", inPlace := ["internal/abi.NoEscape"], named := ["internal/strconv.uint64pow10", "math/bits.deBruijn32tab", "math/bits.deBruijn64tab"], apart := false, laid := [("math/bits.deBruijn32tab", laid_math_bits_deBruijn32tab), ("math/bits.deBruijn64tab", laid_math_bits_deBruijn64tab), ("internal/strconv.uint64pow10", laid_internal_strconv_uint64pow10)], narrowed := true }
def HistMarksUptoSaid : Prop := histMarksUptoRow.holds Tryd.pinned (OpenSpec.upto histMarksSpec)

/-- 'tholelaw11.ReplayBegins', WHERE WHAT IT READS IS OF BULK AT MOST 1048576: true; the input reads as it did. -/
def replayBeginsUptoRow : OpenClaim := { program := "ytbfndihcbogjfaadoor", sum := "3305582e02aeaef8ec797f75bfb363f36978aaac6c550eca480d81f34b04e0d3", func := "thole/tholelaw11.ReplayBegins", spec := "replayBegins", inPlace := ["internal/reflectlite.ValueOf", "(internal/reflectlite.Value).Type", "(internal/reflectlite.Value).IsNil", "internal/reflectlite.TypeOf", "(internal/reflectlite.Value).Elem", "(internal/reflectlite.Value).Set"], unfollowed := true, recurses := true, named := ["errors.errorType"], apart := false, laid := [("errors.errorType", laid_errors_errorType)], narrowed := true }
def ReplayBeginsUptoSaid : Prop := replayBeginsUptoRow.holds Tryd.pinned (OpenSpec.upto replayBeginsSpec)

/-- 'tholelaw11.ReplayBreaks', WHERE WHAT IT READS IS OF BULK AT MOST 1048576: true; the input reads as it did. -/
def replayBreaksUptoRow : OpenClaim := { program := "ytbfndihcbogjfaadoor", sum := "3305582e02aeaef8ec797f75bfb363f36978aaac6c550eca480d81f34b04e0d3", func := "thole/tholelaw11.ReplayBreaks", spec := "replayBreaks", inPlace := ["internal/reflectlite.ValueOf", "(internal/reflectlite.Value).Type", "(internal/reflectlite.Value).IsNil", "internal/reflectlite.TypeOf", "(internal/reflectlite.Value).Elem", "(internal/reflectlite.Value).Set"], unfollowed := true, recurses := true, named := ["errors.errorType"], apart := false, laid := [("errors.errorType", laid_errors_errorType)], narrowed := true }
def ReplayBreaksUptoSaid : Prop := replayBreaksUptoRow.holds Tryd.pinned (OpenSpec.upto replayBreaksSpec)

/-- 'tholelaw11.ReplayBacks', WHERE WHAT IT READS IS OF BULK AT MOST 1048576: true; the input reads as it did. -/
def replayBacksUptoRow : OpenClaim := { program := "ytbfndihcbogjfaadoor", sum := "3305582e02aeaef8ec797f75bfb363f36978aaac6c550eca480d81f34b04e0d3", func := "thole/tholelaw11.ReplayBacks", spec := "replayBacks", inPlace := ["internal/reflectlite.ValueOf", "(internal/reflectlite.Value).Type", "(internal/reflectlite.Value).IsNil", "internal/reflectlite.TypeOf", "(internal/reflectlite.Value).Elem", "(internal/reflectlite.Value).Set"], unfollowed := true, recurses := true, named := ["errors.errorType"], apart := false, laid := [("errors.errorType", laid_errors_errorType)], narrowed := true }
def ReplayBacksUptoSaid : Prop := replayBacksUptoRow.holds Tryd.pinned (OpenSpec.upto replayBacksSpec)

/-- 'tholelaw11.ReplayMoves', WHERE WHAT IT READS IS OF BULK AT MOST 1048576: true; the input reads as it did. -/
def replayMovesUptoRow : OpenClaim := { program := "ytbfndihcbogjfaadoor", sum := "3305582e02aeaef8ec797f75bfb363f36978aaac6c550eca480d81f34b04e0d3", func := "thole/tholelaw11.ReplayMoves", spec := "replayMoves", inPlace := ["internal/reflectlite.ValueOf", "(internal/reflectlite.Value).Type", "(internal/reflectlite.Value).IsNil", "internal/reflectlite.TypeOf", "(internal/reflectlite.Value).Elem", "(internal/reflectlite.Value).Set"], unfollowed := true, recurses := true, named := ["errors.errorType"], apart := false, laid := [("errors.errorType", laid_errors_errorType)], narrowed := true }
def ReplayMovesUptoSaid : Prop := replayMovesUptoRow.holds Tryd.pinned (OpenSpec.upto replayMovesSpec)

/-- 'tholelaw11.ReplayLast', WHERE WHAT IT READS IS OF BULK AT MOST 1048576: true; the input reads as it did. -/
def replayLastUptoRow : OpenClaim := { program := "ytbfndihcbogjfaadoor", sum := "3305582e02aeaef8ec797f75bfb363f36978aaac6c550eca480d81f34b04e0d3", func := "thole/tholelaw11.ReplayLast", spec := "replayLast", inPlace := ["internal/reflectlite.ValueOf", "(internal/reflectlite.Value).Type", "(internal/reflectlite.Value).IsNil", "internal/reflectlite.TypeOf", "(internal/reflectlite.Value).Elem", "(internal/reflectlite.Value).Set"], unfollowed := true, recurses := true, named := ["errors.errorType"], apart := false, laid := [("errors.errorType", laid_errors_errorType)], narrowed := true }
def ReplayLastUptoSaid : Prop := replayLastUptoRow.holds Tryd.pinned (OpenSpec.upto replayLastSpec)

/-- 'tholelaw11.ReplayEnds', WHERE WHAT IT READS IS OF BULK AT MOST 1048576: true; the input reads as it did. -/
def replayEndsUptoRow : OpenClaim := { program := "ytbfndihcbogjfaadoor", sum := "3305582e02aeaef8ec797f75bfb363f36978aaac6c550eca480d81f34b04e0d3", func := "thole/tholelaw11.ReplayEnds", spec := "replayEnds", inPlace := ["internal/reflectlite.ValueOf", "(internal/reflectlite.Value).Type", "(internal/reflectlite.Value).IsNil", "internal/reflectlite.TypeOf", "(internal/reflectlite.Value).Elem", "(internal/reflectlite.Value).Set"], unfollowed := true, recurses := true, named := ["errors.errorType"], apart := false, laid := [("errors.errorType", laid_errors_errorType)], narrowed := true }
def ReplayEndsUptoSaid : Prop := replayEndsUptoRow.holds Tryd.pinned (OpenSpec.upto replayEndsSpec)

end Rows
end Go.Proofs.YtbfndihcbogjfaaDoor

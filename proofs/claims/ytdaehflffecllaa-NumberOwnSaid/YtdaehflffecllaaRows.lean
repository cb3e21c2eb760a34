/-
  No cell of these rows narrows 'for every input' (looked for: loops, veiled, ifaces, maps, wideKeys, modest, calm, conditions, laid).
  DERIVED. THE GIVEN ROWS OF THIS SEAT. 21 by the template 'for every input the law returns true; each argument reads behind the call as it read before'; 0 by the template 'total and deterministic' (their statements: YtdaehflffecllaaTotals.lean).
  GIVEN WITH THE SEED: the statements are not yours to turn. If you find one false, say at which input.
  Laid BY PROGRAM, IN A SANDBOX (cutbox-rows.mjs): the forced cells as the released guide's own fill.sh prints them over the translation 98b9273987cb107a… (all of the seat's roots in one cut). By AI agents, Wed Nov 11 2026. No macro, syntax, notation, axiom, sorry.
-/
import Derived.Test.YtdaehflffecllaaChecked
import GoSem.Claim
import GoSem.ClaimJoined
import GoSem.ClaimMapViews
import Derived.JoinedTies
import Derived.KernelRfl
namespace Go.Proofs.Ytdaehflffecllaa
/- THE CELL 'sum', in the pinned program and in every row, IS THE sha256 OF THE DUMP (.gsa) THAT YtdaehflffecllaaProg.lean LOADS. Nothing in Lean hashes anything: it is a label: what it is worth is what the hold of that sum in a sandbox is worth. -/
noncomputable def Try.pinned : Pinned := { name := "ytdaehflffecllaa", sum := "98b9273987cb107a72462aa237697c09d9ade744c02430e18ed083513249ab9f", checked := Try.checked }
namespace Rows
def none {H : Type} : Left H := { results := [], args := [] }

/-- 'chicorylaw07.DigitsBytes': WHATEVER THE INPUT: true; the input reads as it did. -/
def digitsBytesSpec : ChangeSpec := { name := "digitsBytes", fn := fun _ => fun
  | [d] => { results := [.lit (.bool true)], args := [d] }
  | _ => none }
def digitsBytesRow : OpenClaim := { program := "ytdaehflffecllaa", sum := "98b9273987cb107a72462aa237697c09d9ade744c02430e18ed083513249ab9f", func := "chicory/chicorylaw07.DigitsBytes", spec := "digitsBytes", unfollowed := true, recurses := true, apart := false }
def DigitsBytesSaid : Prop := digitsBytesRow.holds Try.pinned (OpenSpec.ofChange digitsBytesSpec)

/-- ITS FALSE NEIGHBOUR: 'it returns false'. Refute it at one input. -/
def digitsBytesWrong : ChangeSpec := { name := "digitsBytes", fn := fun _ => fun
  | [d] => { results := [.lit (.bool false)], args := [d] }
  | _ => none }
def DigitsBytesWrongFalsely : Prop := digitsBytesRow.holds Try.pinned (OpenSpec.ofChange digitsBytesWrong)

/-- 'chicorylaw07.DigitsTell': WHATEVER THE INPUT: true; the input reads as it did. -/
def digitsTellSpec : ChangeSpec := { name := "digitsTell", fn := fun _ => fun
  | [d1, d2] => { results := [.lit (.bool true)], args := [d1, d2] }
  | _ => none }
def digitsTellRow : OpenClaim := { program := "ytdaehflffecllaa", sum := "98b9273987cb107a72462aa237697c09d9ade744c02430e18ed083513249ab9f", func := "chicory/chicorylaw07.DigitsTell", spec := "digitsTell", unfollowed := true, recurses := true, apart := false }
def DigitsTellSaid : Prop := digitsTellRow.holds Try.pinned (OpenSpec.ofChange digitsTellSpec)

/-- ITS FALSE NEIGHBOUR: 'it returns false'. Refute it at one input. -/
def digitsTellWrong : ChangeSpec := { name := "digitsTell", fn := fun _ => fun
  | [d1, d2] => { results := [.lit (.bool false)], args := [d1, d2] }
  | _ => none }
def DigitsTellWrongFalsely : Prop := digitsTellRow.holds Try.pinned (OpenSpec.ofChange digitsTellWrong)

/-- 'chicorylaw07.DigitsColumns': WHATEVER THE INPUT: true; the input reads as it did. -/
def digitsColumnsSpec : ChangeSpec := { name := "digitsColumns", fn := fun _ => fun
  | [d1, d2] => { results := [.lit (.bool true)], args := [d1, d2] }
  | _ => none }
def digitsColumnsRow : OpenClaim := { program := "ytdaehflffecllaa", sum := "98b9273987cb107a72462aa237697c09d9ade744c02430e18ed083513249ab9f", func := "chicory/chicorylaw07.DigitsColumns", spec := "digitsColumns", unfollowed := true, recurses := true, apart := false }
def DigitsColumnsSaid : Prop := digitsColumnsRow.holds Try.pinned (OpenSpec.ofChange digitsColumnsSpec)

/-- ITS FALSE NEIGHBOUR: 'it returns false'. Refute it at one input. -/
def digitsColumnsWrong : ChangeSpec := { name := "digitsColumns", fn := fun _ => fun
  | [d1, d2] => { results := [.lit (.bool false)], args := [d1, d2] }
  | _ => none }
def DigitsColumnsWrongFalsely : Prop := digitsColumnsRow.holds Try.pinned (OpenSpec.ofChange digitsColumnsWrong)

/-- 'chicorylaw07.DigitsSum': WHATEVER THE INPUT: true; the input reads as it did. -/
def digitsSumSpec : ChangeSpec := { name := "digitsSum", fn := fun _ => fun
  | [d1, d2] => { results := [.lit (.bool true)], args := [d1, d2] }
  | _ => none }
def digitsSumRow : OpenClaim := { program := "ytdaehflffecllaa", sum := "98b9273987cb107a72462aa237697c09d9ade744c02430e18ed083513249ab9f", func := "chicory/chicorylaw07.DigitsSum", spec := "digitsSum", inPlace := ["math/bits.Add64"], unfollowed := true, recurses := true, apart := false }
def DigitsSumSaid : Prop := digitsSumRow.holds Try.pinned (OpenSpec.ofChange digitsSumSpec)

/-- ITS FALSE NEIGHBOUR: 'it returns false'. Refute it at one input. -/
def digitsSumWrong : ChangeSpec := { name := "digitsSum", fn := fun _ => fun
  | [d1, d2] => { results := [.lit (.bool false)], args := [d1, d2] }
  | _ => none }
def DigitsSumWrongFalsely : Prop := digitsSumRow.holds Try.pinned (OpenSpec.ofChange digitsSumWrong)

/-- 'chicorylaw03.NumberCompares': WHATEVER THE INPUT: true; the input reads as it did. -/
def numberComparesSpec : ChangeSpec := { name := "numberCompares", fn := fun _ => fun
  | [d1, d2, d3] => { results := [.lit (.bool true)], args := [d1, d2, d3] }
  | _ => none }
def numberComparesRow : OpenClaim := { program := "ytdaehflffecllaa", sum := "98b9273987cb107a72462aa237697c09d9ade744c02430e18ed083513249ab9f", func := "chicory/chicorylaw03.NumberCompares", spec := "numberCompares", inPlace := ["math/bits.Add64", "math/bits.Sub64"], apart := false }
def NumberComparesSaid : Prop := numberComparesRow.holds Try.pinned (OpenSpec.ofChange numberComparesSpec)

/-- ITS FALSE NEIGHBOUR: 'it returns false'. Refute it at one input. -/
def numberComparesWrong : ChangeSpec := { name := "numberCompares", fn := fun _ => fun
  | [d1, d2, d3] => { results := [.lit (.bool false)], args := [d1, d2, d3] }
  | _ => none }
def NumberComparesWrongFalsely : Prop := numberComparesRow.holds Try.pinned (OpenSpec.ofChange numberComparesWrong)

/-- 'chicorylaw03.NumberSums': WHATEVER THE INPUT: true; the input reads as it did. -/
def numberSumsSpec : ChangeSpec := { name := "numberSums", fn := fun _ => fun
  | [d1, d2] => { results := [.lit (.bool true)], args := [d1, d2] }
  | _ => none }
def numberSumsRow : OpenClaim := { program := "ytdaehflffecllaa", sum := "98b9273987cb107a72462aa237697c09d9ade744c02430e18ed083513249ab9f", func := "chicory/chicorylaw03.NumberSums", spec := "numberSums", inPlace := ["math/bits.Add64", "math/bits.Sub64"], apart := false }
def NumberSumsSaid : Prop := numberSumsRow.holds Try.pinned (OpenSpec.ofChange numberSumsSpec)

/-- ITS FALSE NEIGHBOUR: 'it returns false'. Refute it at one input. -/
def numberSumsWrong : ChangeSpec := { name := "numberSums", fn := fun _ => fun
  | [d1, d2] => { results := [.lit (.bool false)], args := [d1, d2] }
  | _ => none }
def NumberSumsWrongFalsely : Prop := numberSumsRow.holds Try.pinned (OpenSpec.ofChange numberSumsWrong)

/-- 'chicorylaw03.NumberDivides': WHATEVER THE INPUT: true; the input reads as it did. -/
def numberDividesSpec : ChangeSpec := { name := "numberDivides", fn := fun _ => fun
  | [d1, d2] => { results := [.lit (.bool true)], args := [d1, d2] }
  | _ => none }
def numberDividesRow : OpenClaim := { program := "ytdaehflffecllaa", sum := "98b9273987cb107a72462aa237697c09d9ade744c02430e18ed083513249ab9f", func := "chicory/chicorylaw03.NumberDivides", spec := "numberDivides", inPlace := ["math/bits.Add64", "math/bits.Sub64"], apart := false }
def NumberDividesSaid : Prop := numberDividesRow.holds Try.pinned (OpenSpec.ofChange numberDividesSpec)

/-- ITS FALSE NEIGHBOUR: 'it returns false'. Refute it at one input. -/
def numberDividesWrong : ChangeSpec := { name := "numberDivides", fn := fun _ => fun
  | [d1, d2] => { results := [.lit (.bool false)], args := [d1, d2] }
  | _ => none }
def NumberDividesWrongFalsely : Prop := numberDividesRow.holds Try.pinned (OpenSpec.ofChange numberDividesWrong)

/-- 'chicorylaw03.NumberLeaves': WHATEVER THE INPUT: true; the input reads as it did. -/
def numberLeavesSpec : ChangeSpec := { name := "numberLeaves", fn := fun _ => fun
  | [d1, d2, d3] => { results := [.lit (.bool true)], args := [d1, d2, d3] }
  | _ => none }
def numberLeavesRow : OpenClaim := { program := "ytdaehflffecllaa", sum := "98b9273987cb107a72462aa237697c09d9ade744c02430e18ed083513249ab9f", func := "chicory/chicorylaw03.NumberLeaves", spec := "numberLeaves", inPlace := ["math/bits.Add64", "math/bits.Sub64"], apart := false }
def NumberLeavesSaid : Prop := numberLeavesRow.holds Try.pinned (OpenSpec.ofChange numberLeavesSpec)

/-- ITS FALSE NEIGHBOUR: 'it returns false'. Refute it at one input. -/
def numberLeavesWrong : ChangeSpec := { name := "numberLeaves", fn := fun _ => fun
  | [d1, d2, d3] => { results := [.lit (.bool false)], args := [d1, d2, d3] }
  | _ => none }
def NumberLeavesWrongFalsely : Prop := numberLeavesRow.holds Try.pinned (OpenSpec.ofChange numberLeavesWrong)

/-- 'chicorylaw03.NumberShifts': WHATEVER THE INPUT: true; the input reads as it did. -/
def numberShiftsSpec : ChangeSpec := { name := "numberShifts", fn := fun _ => fun
  | [d1, d2] => { results := [.lit (.bool true)], args := [d1, d2] }
  | _ => none }
def numberShiftsRow : OpenClaim := { program := "ytdaehflffecllaa", sum := "98b9273987cb107a72462aa237697c09d9ade744c02430e18ed083513249ab9f", func := "chicory/chicorylaw03.NumberShifts", spec := "numberShifts", inPlace := ["math/bits.Add64", "math/bits.Sub64"], apart := false }
def NumberShiftsSaid : Prop := numberShiftsRow.holds Try.pinned (OpenSpec.ofChange numberShiftsSpec)

/-- ITS FALSE NEIGHBOUR: 'it returns false'. Refute it at one input. -/
def numberShiftsWrong : ChangeSpec := { name := "numberShifts", fn := fun _ => fun
  | [d1, d2] => { results := [.lit (.bool false)], args := [d1, d2] }
  | _ => none }
def NumberShiftsWrongFalsely : Prop := numberShiftsRow.holds Try.pinned (OpenSpec.ofChange numberShiftsWrong)

/-- 'chicorylaw03.NumberWhole': WHATEVER THE INPUT: true; the input reads as it did. -/
def numberWholeSpec : ChangeSpec := { name := "numberWhole", fn := fun _ => fun
  | [d1, d2, d3] => { results := [.lit (.bool true)], args := [d1, d2, d3] }
  | _ => none }
def numberWholeRow : OpenClaim := { program := "ytdaehflffecllaa", sum := "98b9273987cb107a72462aa237697c09d9ade744c02430e18ed083513249ab9f", func := "chicory/chicorylaw03.NumberWhole", spec := "numberWhole", inPlace := ["math/bits.Add64", "math/bits.Sub64"], apart := false }
def NumberWholeSaid : Prop := numberWholeRow.holds Try.pinned (OpenSpec.ofChange numberWholeSpec)

/-- ITS FALSE NEIGHBOUR: 'it returns false'. Refute it at one input. -/
def numberWholeWrong : ChangeSpec := { name := "numberWhole", fn := fun _ => fun
  | [d1, d2, d3] => { results := [.lit (.bool false)], args := [d1, d2, d3] }
  | _ => none }
def NumberWholeWrongFalsely : Prop := numberWholeRow.holds Try.pinned (OpenSpec.ofChange numberWholeWrong)

/-- 'chicorylaw03.NumberOwn': WHATEVER THE INPUT: true; the input reads as it did. -/
def numberOwnSpec : ChangeSpec := { name := "numberOwn", fn := fun _ => fun
  | [d1, d2, d3] => { results := [.lit (.bool true)], args := [d1, d2, d3] }
  | _ => none }
def numberOwnRow : OpenClaim := { program := "ytdaehflffecllaa", sum := "98b9273987cb107a72462aa237697c09d9ade744c02430e18ed083513249ab9f", func := "chicory/chicorylaw03.NumberOwn", spec := "numberOwn", inPlace := ["math/bits.Add64", "math/bits.Sub64"], apart := false }
def NumberOwnSaid : Prop := numberOwnRow.holds Try.pinned (OpenSpec.ofChange numberOwnSpec)

/-- ITS FALSE NEIGHBOUR: 'it returns false'. Refute it at one input. -/
def numberOwnWrong : ChangeSpec := { name := "numberOwn", fn := fun _ => fun
  | [d1, d2, d3] => { results := [.lit (.bool false)], args := [d1, d2, d3] }
  | _ => none }
def NumberOwnWrongFalsely : Prop := numberOwnRow.holds Try.pinned (OpenSpec.ofChange numberOwnWrong)

/-- 'chicorylaw03.NumberBits': WHATEVER THE INPUT: true; the input reads as it did. -/
def numberBitsSpec : ChangeSpec := { name := "numberBits", fn := fun _ => fun
  | [d1, d2] => { results := [.lit (.bool true)], args := [d1, d2] }
  | _ => none }
def numberBitsRow : OpenClaim := { program := "ytdaehflffecllaa", sum := "98b9273987cb107a72462aa237697c09d9ade744c02430e18ed083513249ab9f", func := "chicory/chicorylaw03.NumberBits", spec := "numberBits", inPlace := ["math/bits.Add64", "math/bits.Sub64"], apart := false }
def NumberBitsSaid : Prop := numberBitsRow.holds Try.pinned (OpenSpec.ofChange numberBitsSpec)

/-- ITS FALSE NEIGHBOUR: 'it returns false'. Refute it at one input. -/
def numberBitsWrong : ChangeSpec := { name := "numberBits", fn := fun _ => fun
  | [d1, d2] => { results := [.lit (.bool false)], args := [d1, d2] }
  | _ => none }
def NumberBitsWrongFalsely : Prop := numberBitsRow.holds Try.pinned (OpenSpec.ofChange numberBitsWrong)

/-- 'chicorylaw07.DigitsNaf': WHATEVER THE INPUT: true; the input reads as it did. -/
def digitsNafSpec : ChangeSpec := { name := "digitsNaf", fn := fun _ => fun
  | [d1, d2] => { results := [.lit (.bool true)], args := [d1, d2] }
  | _ => none }
def digitsNafRow : OpenClaim := { program := "ytdaehflffecllaa", sum := "98b9273987cb107a72462aa237697c09d9ade744c02430e18ed083513249ab9f", func := "chicory/chicorylaw07.DigitsNaf", spec := "digitsNaf", inPlace := ["math/bits.Add64"], unfollowed := true, recurses := true, apart := false }
def DigitsNafSaid : Prop := digitsNafRow.holds Try.pinned (OpenSpec.ofChange digitsNafSpec)

/-- ITS FALSE NEIGHBOUR: 'it returns false'. Refute it at one input. -/
def digitsNafWrong : ChangeSpec := { name := "digitsNaf", fn := fun _ => fun
  | [d1, d2] => { results := [.lit (.bool false)], args := [d1, d2] }
  | _ => none }
def DigitsNafWrongFalsely : Prop := digitsNafRow.holds Try.pinned (OpenSpec.ofChange digitsNafWrong)

/-- 'chicorylaw03.NumberBytes': WHATEVER THE INPUT: true; the input reads as it did. -/
def numberBytesSpec : ChangeSpec := { name := "numberBytes", fn := fun _ => fun
  | [d1, d2, d3] => { results := [.lit (.bool true)], args := [d1, d2, d3] }
  | _ => none }
def numberBytesRow : OpenClaim := { program := "ytdaehflffecllaa", sum := "98b9273987cb107a72462aa237697c09d9ade744c02430e18ed083513249ab9f", func := "chicory/chicorylaw03.NumberBytes", spec := "numberBytes", inPlace := ["math/bits.Add64", "math/bits.Sub64"], apart := false }
def NumberBytesSaid : Prop := numberBytesRow.holds Try.pinned (OpenSpec.ofChange numberBytesSpec)

/-- ITS FALSE NEIGHBOUR: 'it returns false'. Refute it at one input. -/
def numberBytesWrong : ChangeSpec := { name := "numberBytes", fn := fun _ => fun
  | [d1, d2, d3] => { results := [.lit (.bool false)], args := [d1, d2, d3] }
  | _ => none }
def NumberBytesWrongFalsely : Prop := numberBytesRow.holds Try.pinned (OpenSpec.ofChange numberBytesWrong)

/-- 'chicorylaw06.ScalarSums': WHATEVER THE INPUT: true; the input reads as it did. -/
def scalarSumsSpec : ChangeSpec := { name := "scalarSums", fn := fun _ => fun
  | [d1, d2, d3] => { results := [.lit (.bool true)], args := [d1, d2, d3] }
  | _ => none }
def scalarSumsRow : OpenClaim := { program := "ytdaehflffecllaa", sum := "98b9273987cb107a72462aa237697c09d9ade744c02430e18ed083513249ab9f", func := "chicory/chicorylaw06.ScalarSums", spec := "scalarSums", inPlace := ["math/bits.Sub64", "math/bits.Add64"], apart := false }
def ScalarSumsSaid : Prop := scalarSumsRow.holds Try.pinned (OpenSpec.ofChange scalarSumsSpec)

/-- ITS FALSE NEIGHBOUR: 'it returns false'. Refute it at one input. -/
def scalarSumsWrong : ChangeSpec := { name := "scalarSums", fn := fun _ => fun
  | [d1, d2, d3] => { results := [.lit (.bool false)], args := [d1, d2, d3] }
  | _ => none }
def ScalarSumsWrongFalsely : Prop := scalarSumsRow.holds Try.pinned (OpenSpec.ofChange scalarSumsWrong)

/-- 'chicorylaw06.ScalarProducts': WHATEVER THE INPUT: true; the input reads as it did. -/
def scalarProductsSpec : ChangeSpec := { name := "scalarProducts", fn := fun _ => fun
  | [d1, d2] => { results := [.lit (.bool true)], args := [d1, d2] }
  | _ => none }
def scalarProductsRow : OpenClaim := { program := "ytdaehflffecllaa", sum := "98b9273987cb107a72462aa237697c09d9ade744c02430e18ed083513249ab9f", func := "chicory/chicorylaw06.ScalarProducts", spec := "scalarProducts", inPlace := ["math/bits.Sub64", "math/bits.Add64"], apart := false }
def ScalarProductsSaid : Prop := scalarProductsRow.holds Try.pinned (OpenSpec.ofChange scalarProductsSpec)

/-- ITS FALSE NEIGHBOUR: 'it returns false'. Refute it at one input. -/
def scalarProductsWrong : ChangeSpec := { name := "scalarProducts", fn := fun _ => fun
  | [d1, d2] => { results := [.lit (.bool false)], args := [d1, d2] }
  | _ => none }
def ScalarProductsWrongFalsely : Prop := scalarProductsRow.holds Try.pinned (OpenSpec.ofChange scalarProductsWrong)

/-- 'chicorylaw06.ScalarClamps': WHATEVER THE INPUT: true; the input reads as it did. -/
def scalarClampsSpec : ChangeSpec := { name := "scalarClamps", fn := fun _ => fun
  | [d] => { results := [.lit (.bool true)], args := [d] }
  | _ => none }
def scalarClampsRow : OpenClaim := { program := "ytdaehflffecllaa", sum := "98b9273987cb107a72462aa237697c09d9ade744c02430e18ed083513249ab9f", func := "chicory/chicorylaw06.ScalarClamps", spec := "scalarClamps", inPlace := ["math/bits.Sub64", "math/bits.Add64"], unfollowed := true, recurses := true, apart := false }
def ScalarClampsSaid : Prop := scalarClampsRow.holds Try.pinned (OpenSpec.ofChange scalarClampsSpec)

/-- ITS FALSE NEIGHBOUR: 'it returns false'. Refute it at one input. -/
def scalarClampsWrong : ChangeSpec := { name := "scalarClamps", fn := fun _ => fun
  | [d] => { results := [.lit (.bool false)], args := [d] }
  | _ => none }
def ScalarClampsWrongFalsely : Prop := scalarClampsRow.holds Try.pinned (OpenSpec.ofChange scalarClampsWrong)

/-- 'chicorylaw06.ScalarLong': WHATEVER THE INPUT: true; the input reads as it did. -/
def scalarLongSpec : ChangeSpec := { name := "scalarLong", fn := fun _ => fun
  | [d1, d2, d3] => { results := [.lit (.bool true)], args := [d1, d2, d3] }
  | _ => none }
def scalarLongRow : OpenClaim := { program := "ytdaehflffecllaa", sum := "98b9273987cb107a72462aa237697c09d9ade744c02430e18ed083513249ab9f", func := "chicory/chicorylaw06.ScalarLong", spec := "scalarLong", inPlace := ["math/bits.Sub64", "math/bits.Add64"], apart := false }
def ScalarLongSaid : Prop := scalarLongRow.holds Try.pinned (OpenSpec.ofChange scalarLongSpec)

/-- ITS FALSE NEIGHBOUR: 'it returns false'. Refute it at one input. -/
def scalarLongWrong : ChangeSpec := { name := "scalarLong", fn := fun _ => fun
  | [d1, d2, d3] => { results := [.lit (.bool false)], args := [d1, d2, d3] }
  | _ => none }
def ScalarLongWrongFalsely : Prop := scalarLongRow.holds Try.pinned (OpenSpec.ofChange scalarLongWrong)

/-- 'chicorylaw06.ScalarRing': WHATEVER THE INPUT: true; the input reads as it did. -/
def scalarRingSpec : ChangeSpec := { name := "scalarRing", fn := fun _ => fun
  | [d1, d2, d3] => { results := [.lit (.bool true)], args := [d1, d2, d3] }
  | _ => none }
def scalarRingRow : OpenClaim := { program := "ytdaehflffecllaa", sum := "98b9273987cb107a72462aa237697c09d9ade744c02430e18ed083513249ab9f", func := "chicory/chicorylaw06.ScalarRing", spec := "scalarRing", inPlace := ["math/bits.Sub64", "math/bits.Add64"], apart := false }
def ScalarRingSaid : Prop := scalarRingRow.holds Try.pinned (OpenSpec.ofChange scalarRingSpec)

/-- ITS FALSE NEIGHBOUR: 'it returns false'. Refute it at one input. -/
def scalarRingWrong : ChangeSpec := { name := "scalarRing", fn := fun _ => fun
  | [d1, d2, d3] => { results := [.lit (.bool false)], args := [d1, d2, d3] }
  | _ => none }
def ScalarRingWrongFalsely : Prop := scalarRingRow.holds Try.pinned (OpenSpec.ofChange scalarRingWrong)

/-- 'chicorylaw06.ScalarBytes': WHATEVER THE INPUT: true; the input reads as it did. -/
def scalarBytesSpec : ChangeSpec := { name := "scalarBytes", fn := fun _ => fun
  | [d] => { results := [.lit (.bool true)], args := [d] }
  | _ => none }
def scalarBytesRow : OpenClaim := { program := "ytdaehflffecllaa", sum := "98b9273987cb107a72462aa237697c09d9ade744c02430e18ed083513249ab9f", func := "chicory/chicorylaw06.ScalarBytes", spec := "scalarBytes", inPlace := ["math/bits.Sub64", "math/bits.Add64"], apart := false }
def ScalarBytesSaid : Prop := scalarBytesRow.holds Try.pinned (OpenSpec.ofChange scalarBytesSpec)

/-- ITS FALSE NEIGHBOUR: 'it returns false'. Refute it at one input. -/
def scalarBytesWrong : ChangeSpec := { name := "scalarBytes", fn := fun _ => fun
  | [d] => { results := [.lit (.bool false)], args := [d] }
  | _ => none }
def ScalarBytesWrongFalsely : Prop := scalarBytesRow.holds Try.pinned (OpenSpec.ofChange scalarBytesWrong)

/-- 'chicorylaw06.ScalarSame': WHATEVER THE INPUT: true; the input reads as it did. -/
def scalarSameSpec : ChangeSpec := { name := "scalarSame", fn := fun _ => fun
  | [d1, d2] => { results := [.lit (.bool true)], args := [d1, d2] }
  | _ => none }
def scalarSameRow : OpenClaim := { program := "ytdaehflffecllaa", sum := "98b9273987cb107a72462aa237697c09d9ade744c02430e18ed083513249ab9f", func := "chicory/chicorylaw06.ScalarSame", spec := "scalarSame", inPlace := ["math/bits.Sub64", "math/bits.Add64"], unfollowed := true, recurses := true, apart := false }
def ScalarSameSaid : Prop := scalarSameRow.holds Try.pinned (OpenSpec.ofChange scalarSameSpec)

/-- ITS FALSE NEIGHBOUR: 'it returns false'. Refute it at one input. -/
def scalarSameWrong : ChangeSpec := { name := "scalarSame", fn := fun _ => fun
  | [d1, d2] => { results := [.lit (.bool false)], args := [d1, d2] }
  | _ => none }
def ScalarSameWrongFalsely : Prop := scalarSameRow.holds Try.pinned (OpenSpec.ofChange scalarSameWrong)

/- THE SECOND FORM. 'bulk': how many values and letters a reading holds, each counted each time it is reached (what is shared counts as often as it is met; a slice's spare places count too). A statement '..UptoSaid' is the law's where the arguments, and the package variables that the reading takes, are together of bulk at most 1048576: NARROWER than '..Said'. Prove '..Said' where nothing that the law and all that it calls make is longer than what came in: it says more and counts as full. Else prove '..UptoSaid'. A law counts once. -/
mutual
def uptoBulk {H : Type} : DataW H → Nat
  | .lit (.string bytes) => bytes.length + 1
  | .lit _ => 1
  | .nil => 1
  | .ptr d => uptoBulk d + 1
  | .slice elems spare => uptoBulkAll elems + uptoBulkAll spare + 1
  | .agg parts => uptoBulkAll parts + 1
  | .iface _ d => uptoBulk d + 1
  | .map entries => uptoBulkEntries entries + 1
  | .held _ => 1
def uptoBulkAll {H : Type} : List (DataW H) → Nat
  | [] => 0
  | d :: r => uptoBulk d + uptoBulkAll r
def uptoBulkEntries {H : Type} : List (Lit × DataW H) → Nat
  | [] => 0
  | x :: r => uptoBulkEntry x + uptoBulkEntries r
def uptoBulkEntry {H : Type} : Lit × DataW H → Nat
  | (.string bytes, d) => bytes.length + uptoBulk d + 1
  | (_, d) => uptoBulk d + 1
 end
def uptoSmall : (H : Type) → List (DataW H) → Bool := fun _ ds => decide (uptoBulkAll ds ≤ 1048576)
def OpenSpec.upto (s : _root_.Go.ChangeSpec) : _root_.Go.OpenSpec := { _root_.Go.OpenSpec.ofChange s with cond := some uptoSmall }

/-- 'chicorylaw07.DigitsBytes', WHERE WHAT IT READS IS OF BULK AT MOST 1048576: true; the input reads as it did. -/
def digitsBytesUptoRow : OpenClaim := { program := "ytdaehflffecllaa", sum := "98b9273987cb107a72462aa237697c09d9ade744c02430e18ed083513249ab9f", func := "chicory/chicorylaw07.DigitsBytes", spec := "digitsBytes", unfollowed := true, recurses := true, apart := false, narrowed := true }
def DigitsBytesUptoSaid : Prop := digitsBytesUptoRow.holds Try.pinned (OpenSpec.upto digitsBytesSpec)

/-- 'chicorylaw07.DigitsTell', WHERE WHAT IT READS IS OF BULK AT MOST 1048576: true; the input reads as it did. -/
def digitsTellUptoRow : OpenClaim := { program := "ytdaehflffecllaa", sum := "98b9273987cb107a72462aa237697c09d9ade744c02430e18ed083513249ab9f", func := "chicory/chicorylaw07.DigitsTell", spec := "digitsTell", unfollowed := true, recurses := true, apart := false, narrowed := true }
def DigitsTellUptoSaid : Prop := digitsTellUptoRow.holds Try.pinned (OpenSpec.upto digitsTellSpec)

/-- 'chicorylaw07.DigitsColumns', WHERE WHAT IT READS IS OF BULK AT MOST 1048576: true; the input reads as it did. -/
def digitsColumnsUptoRow : OpenClaim := { program := "ytdaehflffecllaa", sum := "98b9273987cb107a72462aa237697c09d9ade744c02430e18ed083513249ab9f", func := "chicory/chicorylaw07.DigitsColumns", spec := "digitsColumns", unfollowed := true, recurses := true, apart := false, narrowed := true }
def DigitsColumnsUptoSaid : Prop := digitsColumnsUptoRow.holds Try.pinned (OpenSpec.upto digitsColumnsSpec)

/-- 'chicorylaw07.DigitsSum', WHERE WHAT IT READS IS OF BULK AT MOST 1048576: true; the input reads as it did. -/
def digitsSumUptoRow : OpenClaim := { program := "ytdaehflffecllaa", sum := "98b9273987cb107a72462aa237697c09d9ade744c02430e18ed083513249ab9f", func := "chicory/chicorylaw07.DigitsSum", spec := "digitsSum", inPlace := ["math/bits.Add64"], unfollowed := true, recurses := true, apart := false, narrowed := true }
def DigitsSumUptoSaid : Prop := digitsSumUptoRow.holds Try.pinned (OpenSpec.upto digitsSumSpec)

/-- 'chicorylaw03.NumberCompares', WHERE WHAT IT READS IS OF BULK AT MOST 1048576: true; the input reads as it did. -/
def numberComparesUptoRow : OpenClaim := { program := "ytdaehflffecllaa", sum := "98b9273987cb107a72462aa237697c09d9ade744c02430e18ed083513249ab9f", func := "chicory/chicorylaw03.NumberCompares", spec := "numberCompares", inPlace := ["math/bits.Add64", "math/bits.Sub64"], apart := false, narrowed := true }
def NumberComparesUptoSaid : Prop := numberComparesUptoRow.holds Try.pinned (OpenSpec.upto numberComparesSpec)

/-- 'chicorylaw03.NumberSums', WHERE WHAT IT READS IS OF BULK AT MOST 1048576: true; the input reads as it did. -/
def numberSumsUptoRow : OpenClaim := { program := "ytdaehflffecllaa", sum := "98b9273987cb107a72462aa237697c09d9ade744c02430e18ed083513249ab9f", func := "chicory/chicorylaw03.NumberSums", spec := "numberSums", inPlace := ["math/bits.Add64", "math/bits.Sub64"], apart := false, narrowed := true }
def NumberSumsUptoSaid : Prop := numberSumsUptoRow.holds Try.pinned (OpenSpec.upto numberSumsSpec)

/-- 'chicorylaw03.NumberDivides', WHERE WHAT IT READS IS OF BULK AT MOST 1048576: true; the input reads as it did. -/
def numberDividesUptoRow : OpenClaim := { program := "ytdaehflffecllaa", sum := "98b9273987cb107a72462aa237697c09d9ade744c02430e18ed083513249ab9f", func := "chicory/chicorylaw03.NumberDivides", spec := "numberDivides", inPlace := ["math/bits.Add64", "math/bits.Sub64"], apart := false, narrowed := true }
def NumberDividesUptoSaid : Prop := numberDividesUptoRow.holds Try.pinned (OpenSpec.upto numberDividesSpec)

/-- 'chicorylaw03.NumberLeaves', WHERE WHAT IT READS IS OF BULK AT MOST 1048576: true; the input reads as it did. -/
def numberLeavesUptoRow : OpenClaim := { program := "ytdaehflffecllaa", sum := "98b9273987cb107a72462aa237697c09d9ade744c02430e18ed083513249ab9f", func := "chicory/chicorylaw03.NumberLeaves", spec := "numberLeaves", inPlace := ["math/bits.Add64", "math/bits.Sub64"], apart := false, narrowed := true }
def NumberLeavesUptoSaid : Prop := numberLeavesUptoRow.holds Try.pinned (OpenSpec.upto numberLeavesSpec)

/-- 'chicorylaw03.NumberShifts', WHERE WHAT IT READS IS OF BULK AT MOST 1048576: true; the input reads as it did. -/
def numberShiftsUptoRow : OpenClaim := { program := "ytdaehflffecllaa", sum := "98b9273987cb107a72462aa237697c09d9ade744c02430e18ed083513249ab9f", func := "chicory/chicorylaw03.NumberShifts", spec := "numberShifts", inPlace := ["math/bits.Add64", "math/bits.Sub64"], apart := false, narrowed := true }
def NumberShiftsUptoSaid : Prop := numberShiftsUptoRow.holds Try.pinned (OpenSpec.upto numberShiftsSpec)

/-- 'chicorylaw03.NumberWhole', WHERE WHAT IT READS IS OF BULK AT MOST 1048576: true; the input reads as it did. -/
def numberWholeUptoRow : OpenClaim := { program := "ytdaehflffecllaa", sum := "98b9273987cb107a72462aa237697c09d9ade744c02430e18ed083513249ab9f", func := "chicory/chicorylaw03.NumberWhole", spec := "numberWhole", inPlace := ["math/bits.Add64", "math/bits.Sub64"], apart := false, narrowed := true }
def NumberWholeUptoSaid : Prop := numberWholeUptoRow.holds Try.pinned (OpenSpec.upto numberWholeSpec)

/-- 'chicorylaw03.NumberOwn', WHERE WHAT IT READS IS OF BULK AT MOST 1048576: true; the input reads as it did. -/
def numberOwnUptoRow : OpenClaim := { program := "ytdaehflffecllaa", sum := "98b9273987cb107a72462aa237697c09d9ade744c02430e18ed083513249ab9f", func := "chicory/chicorylaw03.NumberOwn", spec := "numberOwn", inPlace := ["math/bits.Add64", "math/bits.Sub64"], apart := false, narrowed := true }
def NumberOwnUptoSaid : Prop := numberOwnUptoRow.holds Try.pinned (OpenSpec.upto numberOwnSpec)

/-- 'chicorylaw03.NumberBits', WHERE WHAT IT READS IS OF BULK AT MOST 1048576: true; the input reads as it did. -/
def numberBitsUptoRow : OpenClaim := { program := "ytdaehflffecllaa", sum := "98b9273987cb107a72462aa237697c09d9ade744c02430e18ed083513249ab9f", func := "chicory/chicorylaw03.NumberBits", spec := "numberBits", inPlace := ["math/bits.Add64", "math/bits.Sub64"], apart := false, narrowed := true }
def NumberBitsUptoSaid : Prop := numberBitsUptoRow.holds Try.pinned (OpenSpec.upto numberBitsSpec)

/-- 'chicorylaw07.DigitsNaf', WHERE WHAT IT READS IS OF BULK AT MOST 1048576: true; the input reads as it did. -/
def digitsNafUptoRow : OpenClaim := { program := "ytdaehflffecllaa", sum := "98b9273987cb107a72462aa237697c09d9ade744c02430e18ed083513249ab9f", func := "chicory/chicorylaw07.DigitsNaf", spec := "digitsNaf", inPlace := ["math/bits.Add64"], unfollowed := true, recurses := true, apart := false, narrowed := true }
def DigitsNafUptoSaid : Prop := digitsNafUptoRow.holds Try.pinned (OpenSpec.upto digitsNafSpec)

/-- 'chicorylaw03.NumberBytes', WHERE WHAT IT READS IS OF BULK AT MOST 1048576: true; the input reads as it did. -/
def numberBytesUptoRow : OpenClaim := { program := "ytdaehflffecllaa", sum := "98b9273987cb107a72462aa237697c09d9ade744c02430e18ed083513249ab9f", func := "chicory/chicorylaw03.NumberBytes", spec := "numberBytes", inPlace := ["math/bits.Add64", "math/bits.Sub64"], apart := false, narrowed := true }
def NumberBytesUptoSaid : Prop := numberBytesUptoRow.holds Try.pinned (OpenSpec.upto numberBytesSpec)

/-- 'chicorylaw06.ScalarSums', WHERE WHAT IT READS IS OF BULK AT MOST 1048576: true; the input reads as it did. -/
def scalarSumsUptoRow : OpenClaim := { program := "ytdaehflffecllaa", sum := "98b9273987cb107a72462aa237697c09d9ade744c02430e18ed083513249ab9f", func := "chicory/chicorylaw06.ScalarSums", spec := "scalarSums", inPlace := ["math/bits.Sub64", "math/bits.Add64"], apart := false, narrowed := true }
def ScalarSumsUptoSaid : Prop := scalarSumsUptoRow.holds Try.pinned (OpenSpec.upto scalarSumsSpec)

/-- 'chicorylaw06.ScalarProducts', WHERE WHAT IT READS IS OF BULK AT MOST 1048576: true; the input reads as it did. -/
def scalarProductsUptoRow : OpenClaim := { program := "ytdaehflffecllaa", sum := "98b9273987cb107a72462aa237697c09d9ade744c02430e18ed083513249ab9f", func := "chicory/chicorylaw06.ScalarProducts", spec := "scalarProducts", inPlace := ["math/bits.Sub64", "math/bits.Add64"], apart := false, narrowed := true }
def ScalarProductsUptoSaid : Prop := scalarProductsUptoRow.holds Try.pinned (OpenSpec.upto scalarProductsSpec)

/-- 'chicorylaw06.ScalarClamps', WHERE WHAT IT READS IS OF BULK AT MOST 1048576: true; the input reads as it did. -/
def scalarClampsUptoRow : OpenClaim := { program := "ytdaehflffecllaa", sum := "98b9273987cb107a72462aa237697c09d9ade744c02430e18ed083513249ab9f", func := "chicory/chicorylaw06.ScalarClamps", spec := "scalarClamps", inPlace := ["math/bits.Sub64", "math/bits.Add64"], unfollowed := true, recurses := true, apart := false, narrowed := true }
def ScalarClampsUptoSaid : Prop := scalarClampsUptoRow.holds Try.pinned (OpenSpec.upto scalarClampsSpec)

/-- 'chicorylaw06.ScalarLong', WHERE WHAT IT READS IS OF BULK AT MOST 1048576: true; the input reads as it did. -/
def scalarLongUptoRow : OpenClaim := { program := "ytdaehflffecllaa", sum := "98b9273987cb107a72462aa237697c09d9ade744c02430e18ed083513249ab9f", func := "chicory/chicorylaw06.ScalarLong", spec := "scalarLong", inPlace := ["math/bits.Sub64", "math/bits.Add64"], apart := false, narrowed := true }
def ScalarLongUptoSaid : Prop := scalarLongUptoRow.holds Try.pinned (OpenSpec.upto scalarLongSpec)

/-- 'chicorylaw06.ScalarRing', WHERE WHAT IT READS IS OF BULK AT MOST 1048576: true; the input reads as it did. -/
def scalarRingUptoRow : OpenClaim := { program := "ytdaehflffecllaa", sum := "98b9273987cb107a72462aa237697c09d9ade744c02430e18ed083513249ab9f", func := "chicory/chicorylaw06.ScalarRing", spec := "scalarRing", inPlace := ["math/bits.Sub64", "math/bits.Add64"], apart := false, narrowed := true }
def ScalarRingUptoSaid : Prop := scalarRingUptoRow.holds Try.pinned (OpenSpec.upto scalarRingSpec)

/-- 'chicorylaw06.ScalarBytes', WHERE WHAT IT READS IS OF BULK AT MOST 1048576: true; the input reads as it did. -/
def scalarBytesUptoRow : OpenClaim := { program := "ytdaehflffecllaa", sum := "98b9273987cb107a72462aa237697c09d9ade744c02430e18ed083513249ab9f", func := "chicory/chicorylaw06.ScalarBytes", spec := "scalarBytes", inPlace := ["math/bits.Sub64", "math/bits.Add64"], apart := false, narrowed := true }
def ScalarBytesUptoSaid : Prop := scalarBytesUptoRow.holds Try.pinned (OpenSpec.upto scalarBytesSpec)

/-- 'chicorylaw06.ScalarSame', WHERE WHAT IT READS IS OF BULK AT MOST 1048576: true; the input reads as it did. -/
def scalarSameUptoRow : OpenClaim := { program := "ytdaehflffecllaa", sum := "98b9273987cb107a72462aa237697c09d9ade744c02430e18ed083513249ab9f", func := "chicory/chicorylaw06.ScalarSame", spec := "scalarSame", inPlace := ["math/bits.Sub64", "math/bits.Add64"], unfollowed := true, recurses := true, apart := false, narrowed := true }
def ScalarSameUptoSaid : Prop := scalarSameUptoRow.holds Try.pinned (OpenSpec.upto scalarSameSpec)

end Rows
end Go.Proofs.Ytdaehflffecllaa

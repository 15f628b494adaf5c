/-
  No cell of these rows narrows 'for every input' (looked for: loops, veiled, ifaces, maps, wideKeys, modest, calm, conditions, laid).
  DERIVED. THE GIVEN ROWS OF THIS SEAT. 13 by the template 'for every input the law returns true; each argument reads behind the call as it read before'; 0 by the template 'total and deterministic' (their statements: YtggdmhkdmkldoaaTotals.lean).
  GIVEN WITH THE SEED: the statements are not yours to turn. If you find one false, say at which input.
  Laid BY PROGRAM, IN A SANDBOX (cutbox-rows.mjs): the forced cells as the released guide's own fill.sh prints them over the translation 56af93c1e1dc144f… (all of the seat's roots in one cut). By AI agents, Wed Nov 11 2026. No macro, syntax, notation, axiom, sorry.
-/
import Derived.Test.YtggdmhkdmkldoaaChecked
import GoSem.Claim
import GoSem.ClaimJoined
import GoSem.ClaimMapViews
import Derived.JoinedTies
import Derived.KernelRfl
namespace Go.Proofs.Ytggdmhkdmkldoaa
/- THE CELL 'sum', in the pinned program and in every row, IS THE sha256 OF THE DUMP (.gsa) THAT YtggdmhkdmkldoaaProg.lean LOADS. Nothing in Lean hashes anything: it is a label: what it is worth is what the hold of that sum in a sandbox is worth. -/
noncomputable def Try.pinned : Pinned := { name := "ytggdmhkdmkldoaa", sum := "56af93c1e1dc144f58e278d805319f6511f76583acb84c6a8dbe3c0e305a3850", checked := Try.checked }
namespace Rows
def none {H : Type} : Left H := { results := [], args := [] }

/-- 'hornbeamlaw01.BigintDivides': WHATEVER THE INPUT: true; the input reads as it did. -/
def bigintDividesSpec : ChangeSpec := { name := "bigintDivides", fn := fun _ => fun
  | [d1, d2] => { results := [.lit (.bool true)], args := [d1, d2] }
  | _ => none }
def bigintDividesRow : OpenClaim := { program := "ytggdmhkdmkldoaa", sum := "56af93c1e1dc144f58e278d805319f6511f76583acb84c6a8dbe3c0e305a3850", func := "hornbeam/hornbeamlaw01.BigintDivides", spec := "bigintDivides", named := ["math/bits.overflowError"], apart := false }
def BigintDividesSaid : Prop := bigintDividesRow.holds Try.pinned (OpenSpec.ofChange bigintDividesSpec)

/-- ITS FALSE NEIGHBOUR: 'it returns false'. Refute it at one input. -/
def bigintDividesWrong : ChangeSpec := { name := "bigintDivides", fn := fun _ => fun
  | [d1, d2] => { results := [.lit (.bool false)], args := [d1, d2] }
  | _ => none }
def BigintDividesWrongFalsely : Prop := bigintDividesRow.holds Try.pinned (OpenSpec.ofChange bigintDividesWrong)

/-- 'hornbeamlaw01.BigintTexts': WHATEVER THE INPUT: true; the input reads as it did. -/
def bigintTextsSpec : ChangeSpec := { name := "bigintTexts", fn := fun _ => fun
  | [d1, d2, d3] => { results := [.lit (.bool true)], args := [d1, d2, d3] }
  | _ => none }
def bigintTextsRow : OpenClaim := { program := "ytggdmhkdmkldoaa", sum := "56af93c1e1dc144f58e278d805319f6511f76583acb84c6a8dbe3c0e305a3850", func := "hornbeam/hornbeamlaw01.BigintTexts", spec := "bigintTexts", named := ["math/bits.overflowError"], apart := false }
def BigintTextsSaid : Prop := bigintTextsRow.holds Try.pinned (OpenSpec.ofChange bigintTextsSpec)

/-- ITS FALSE NEIGHBOUR: 'it returns false'. Refute it at one input. -/
def bigintTextsWrong : ChangeSpec := { name := "bigintTexts", fn := fun _ => fun
  | [d1, d2, d3] => { results := [.lit (.bool false)], args := [d1, d2, d3] }
  | _ => none }
def BigintTextsWrongFalsely : Prop := bigintTextsRow.holds Try.pinned (OpenSpec.ofChange bigintTextsWrong)

/-- 'hornbeamlaw01.BigintReads': WHATEVER THE INPUT: true; the input reads as it did. -/
def bigintReadsSpec : ChangeSpec := { name := "bigintReads", fn := fun _ => fun
  | [d1, d2, d3] => { results := [.lit (.bool true)], args := [d1, d2, d3] }
  | _ => none }
def bigintReadsRow : OpenClaim := { program := "ytggdmhkdmkldoaa", sum := "56af93c1e1dc144f58e278d805319f6511f76583acb84c6a8dbe3c0e305a3850", func := "hornbeam/hornbeamlaw01.BigintReads", spec := "bigintReads", named := ["math/bits.overflowError"], apart := false }
def BigintReadsSaid : Prop := bigintReadsRow.holds Try.pinned (OpenSpec.ofChange bigintReadsSpec)

/-- ITS FALSE NEIGHBOUR: 'it returns false'. Refute it at one input. -/
def bigintReadsWrong : ChangeSpec := { name := "bigintReads", fn := fun _ => fun
  | [d1, d2, d3] => { results := [.lit (.bool false)], args := [d1, d2, d3] }
  | _ => none }
def BigintReadsWrongFalsely : Prop := bigintReadsRow.holds Try.pinned (OpenSpec.ofChange bigintReadsWrong)

/-- 'hornbeamlaw01.BigintForms': WHATEVER THE INPUT: true; the input reads as it did. -/
def bigintFormsSpec : ChangeSpec := { name := "bigintForms", fn := fun _ => fun
  | [d1, d2, d3] => { results := [.lit (.bool true)], args := [d1, d2, d3] }
  | _ => none }
def bigintFormsRow : OpenClaim := { program := "ytggdmhkdmkldoaa", sum := "56af93c1e1dc144f58e278d805319f6511f76583acb84c6a8dbe3c0e305a3850", func := "hornbeam/hornbeamlaw01.BigintForms", spec := "bigintForms", named := ["math/bits.overflowError"], apart := false }
def BigintFormsSaid : Prop := bigintFormsRow.holds Try.pinned (OpenSpec.ofChange bigintFormsSpec)

/-- ITS FALSE NEIGHBOUR: 'it returns false'. Refute it at one input. -/
def bigintFormsWrong : ChangeSpec := { name := "bigintForms", fn := fun _ => fun
  | [d1, d2, d3] => { results := [.lit (.bool false)], args := [d1, d2, d3] }
  | _ => none }
def BigintFormsWrongFalsely : Prop := bigintFormsRow.holds Try.pinned (OpenSpec.ofChange bigintFormsWrong)

/-- 'hornbeamlaw01.BigintParts': WHATEVER THE INPUT: true; the input reads as it did. -/
def bigintPartsSpec : ChangeSpec := { name := "bigintParts", fn := fun _ => fun
  | [d1, d2] => { results := [.lit (.bool true)], args := [d1, d2] }
  | _ => none }
def bigintPartsRow : OpenClaim := { program := "ytggdmhkdmkldoaa", sum := "56af93c1e1dc144f58e278d805319f6511f76583acb84c6a8dbe3c0e305a3850", func := "hornbeam/hornbeamlaw01.BigintParts", spec := "bigintParts", named := ["math/bits.overflowError"], apart := false }
def BigintPartsSaid : Prop := bigintPartsRow.holds Try.pinned (OpenSpec.ofChange bigintPartsSpec)

/-- ITS FALSE NEIGHBOUR: 'it returns false'. Refute it at one input. -/
def bigintPartsWrong : ChangeSpec := { name := "bigintParts", fn := fun _ => fun
  | [d1, d2] => { results := [.lit (.bool false)], args := [d1, d2] }
  | _ => none }
def BigintPartsWrongFalsely : Prop := bigintPartsRow.holds Try.pinned (OpenSpec.ofChange bigintPartsWrong)

/-- 'hornbeamlaw01.BigintSums': WHATEVER THE INPUT: true; the input reads as it did. -/
def bigintSumsSpec : ChangeSpec := { name := "bigintSums", fn := fun _ => fun
  | [d1, d2] => { results := [.lit (.bool true)], args := [d1, d2] }
  | _ => none }
def bigintSumsRow : OpenClaim := { program := "ytggdmhkdmkldoaa", sum := "56af93c1e1dc144f58e278d805319f6511f76583acb84c6a8dbe3c0e305a3850", func := "hornbeam/hornbeamlaw01.BigintSums", spec := "bigintSums", named := ["math/bits.overflowError"], apart := false }
def BigintSumsSaid : Prop := bigintSumsRow.holds Try.pinned (OpenSpec.ofChange bigintSumsSpec)

/-- ITS FALSE NEIGHBOUR: 'it returns false'. Refute it at one input. -/
def bigintSumsWrong : ChangeSpec := { name := "bigintSums", fn := fun _ => fun
  | [d1, d2] => { results := [.lit (.bool false)], args := [d1, d2] }
  | _ => none }
def BigintSumsWrongFalsely : Prop := bigintSumsRow.holds Try.pinned (OpenSpec.ofChange bigintSumsWrong)

/-- 'hornbeamlaw01.BigintRings': WHATEVER THE INPUT: true; the input reads as it did. -/
def bigintRingsSpec : ChangeSpec := { name := "bigintRings", fn := fun _ => fun
  | [d1, d2, d3] => { results := [.lit (.bool true)], args := [d1, d2, d3] }
  | _ => none }
def bigintRingsRow : OpenClaim := { program := "ytggdmhkdmkldoaa", sum := "56af93c1e1dc144f58e278d805319f6511f76583acb84c6a8dbe3c0e305a3850", func := "hornbeam/hornbeamlaw01.BigintRings", spec := "bigintRings", named := ["math/bits.overflowError"], apart := false }
def BigintRingsSaid : Prop := bigintRingsRow.holds Try.pinned (OpenSpec.ofChange bigintRingsSpec)

/-- ITS FALSE NEIGHBOUR: 'it returns false'. Refute it at one input. -/
def bigintRingsWrong : ChangeSpec := { name := "bigintRings", fn := fun _ => fun
  | [d1, d2, d3] => { results := [.lit (.bool false)], args := [d1, d2, d3] }
  | _ => none }
def BigintRingsWrongFalsely : Prop := bigintRingsRow.holds Try.pinned (OpenSpec.ofChange bigintRingsWrong)

/-- 'hornbeamlaw01.BigintPowers': WHATEVER THE INPUT: true; the input reads as it did. -/
def bigintPowersSpec : ChangeSpec := { name := "bigintPowers", fn := fun _ => fun
  | [d1, d2, d3] => { results := [.lit (.bool true)], args := [d1, d2, d3] }
  | _ => none }
def bigintPowersRow : OpenClaim := { program := "ytggdmhkdmkldoaa", sum := "56af93c1e1dc144f58e278d805319f6511f76583acb84c6a8dbe3c0e305a3850", func := "hornbeam/hornbeamlaw01.BigintPowers", spec := "bigintPowers", named := ["math/bits.overflowError"], apart := false }
def BigintPowersSaid : Prop := bigintPowersRow.holds Try.pinned (OpenSpec.ofChange bigintPowersSpec)

/-- ITS FALSE NEIGHBOUR: 'it returns false'. Refute it at one input. -/
def bigintPowersWrong : ChangeSpec := { name := "bigintPowers", fn := fun _ => fun
  | [d1, d2, d3] => { results := [.lit (.bool false)], args := [d1, d2, d3] }
  | _ => none }
def BigintPowersWrongFalsely : Prop := bigintPowersRow.holds Try.pinned (OpenSpec.ofChange bigintPowersWrong)

/-- 'hornbeamlaw01.BigintBits': WHATEVER THE INPUT: true; the input reads as it did. -/
def bigintBitsSpec : ChangeSpec := { name := "bigintBits", fn := fun _ => fun
  | [d1, d2] => { results := [.lit (.bool true)], args := [d1, d2] }
  | _ => none }
def bigintBitsRow : OpenClaim := { program := "ytggdmhkdmkldoaa", sum := "56af93c1e1dc144f58e278d805319f6511f76583acb84c6a8dbe3c0e305a3850", func := "hornbeam/hornbeamlaw01.BigintBits", spec := "bigintBits", unfollowed := true, recurses := true, named := ["math/bits.overflowError"], apart := false }
def BigintBitsSaid : Prop := bigintBitsRow.holds Try.pinned (OpenSpec.ofChange bigintBitsSpec)

/-- ITS FALSE NEIGHBOUR: 'it returns false'. Refute it at one input. -/
def bigintBitsWrong : ChangeSpec := { name := "bigintBits", fn := fun _ => fun
  | [d1, d2] => { results := [.lit (.bool false)], args := [d1, d2] }
  | _ => none }
def BigintBitsWrongFalsely : Prop := bigintBitsRow.holds Try.pinned (OpenSpec.ofChange bigintBitsWrong)

/-- 'hornbeamlaw01.BigintShifts': WHATEVER THE INPUT: true; the input reads as it did. -/
def bigintShiftsSpec : ChangeSpec := { name := "bigintShifts", fn := fun _ => fun
  | [d1, d2, d3] => { results := [.lit (.bool true)], args := [d1, d2, d3] }
  | _ => none }
def bigintShiftsRow : OpenClaim := { program := "ytggdmhkdmkldoaa", sum := "56af93c1e1dc144f58e278d805319f6511f76583acb84c6a8dbe3c0e305a3850", func := "hornbeam/hornbeamlaw01.BigintShifts", spec := "bigintShifts", named := ["math/bits.overflowError"], apart := false }
def BigintShiftsSaid : Prop := bigintShiftsRow.holds Try.pinned (OpenSpec.ofChange bigintShiftsSpec)

/-- ITS FALSE NEIGHBOUR: 'it returns false'. Refute it at one input. -/
def bigintShiftsWrong : ChangeSpec := { name := "bigintShifts", fn := fun _ => fun
  | [d1, d2, d3] => { results := [.lit (.bool false)], args := [d1, d2, d3] }
  | _ => none }
def BigintShiftsWrongFalsely : Prop := bigintShiftsRow.holds Try.pinned (OpenSpec.ofChange bigintShiftsWrong)

/-- 'hornbeamlaw01.BigintSets': WHATEVER THE INPUT: true; the input reads as it did. -/
def bigintSetsSpec : ChangeSpec := { name := "bigintSets", fn := fun _ => fun
  | [d1, d2, d3] => { results := [.lit (.bool true)], args := [d1, d2, d3] }
  | _ => none }
def bigintSetsRow : OpenClaim := { program := "ytggdmhkdmkldoaa", sum := "56af93c1e1dc144f58e278d805319f6511f76583acb84c6a8dbe3c0e305a3850", func := "hornbeam/hornbeamlaw01.BigintSets", spec := "bigintSets", unfollowed := true, recurses := true, named := ["math/bits.overflowError"], apart := false }
def BigintSetsSaid : Prop := bigintSetsRow.holds Try.pinned (OpenSpec.ofChange bigintSetsSpec)

/-- ITS FALSE NEIGHBOUR: 'it returns false'. Refute it at one input. -/
def bigintSetsWrong : ChangeSpec := { name := "bigintSets", fn := fun _ => fun
  | [d1, d2, d3] => { results := [.lit (.bool false)], args := [d1, d2, d3] }
  | _ => none }
def BigintSetsWrongFalsely : Prop := bigintSetsRow.holds Try.pinned (OpenSpec.ofChange bigintSetsWrong)

/-- 'hornbeamlaw01.BigintFloats': WHATEVER THE INPUT: true; the input reads as it did. -/
def bigintFloatsSpec : ChangeSpec := { name := "bigintFloats", fn := fun _ => fun
  | [d1, d2] => { results := [.lit (.bool true)], args := [d1, d2] }
  | _ => none }
def bigintFloatsRow : OpenClaim := { program := "ytggdmhkdmkldoaa", sum := "56af93c1e1dc144f58e278d805319f6511f76583acb84c6a8dbe3c0e305a3850", func := "hornbeam/hornbeamlaw01.BigintFloats", spec := "bigintFloats", inPlace := ["math.Float64bits", "math.Float64frombits"], named := ["math/bits.overflowError"], apart := false }
def BigintFloatsSaid : Prop := bigintFloatsRow.holds Try.pinned (OpenSpec.ofChange bigintFloatsSpec)

/-- ITS FALSE NEIGHBOUR: 'it returns false'. Refute it at one input. -/
def bigintFloatsWrong : ChangeSpec := { name := "bigintFloats", fn := fun _ => fun
  | [d1, d2] => { results := [.lit (.bool false)], args := [d1, d2] }
  | _ => none }
def BigintFloatsWrongFalsely : Prop := bigintFloatsRow.holds Try.pinned (OpenSpec.ofChange bigintFloatsWrong)

/-- 'hornbeamlaw01.BigintNear': WHATEVER THE INPUT: true; the input reads as it did. -/
def bigintNearSpec : ChangeSpec := { name := "bigintNear", fn := fun _ => fun
  | [d1, d2] => { results := [.lit (.bool true)], args := [d1, d2] }
  | _ => none }
def bigintNearRow : OpenClaim := { program := "ytggdmhkdmkldoaa", sum := "56af93c1e1dc144f58e278d805319f6511f76583acb84c6a8dbe3c0e305a3850", func := "hornbeam/hornbeamlaw01.BigintNear", spec := "bigintNear", inPlace := ["math.Float64bits", "math.Float64frombits"], named := ["math/bits.overflowError"], apart := false }
def BigintNearSaid : Prop := bigintNearRow.holds Try.pinned (OpenSpec.ofChange bigintNearSpec)

/-- ITS FALSE NEIGHBOUR: 'it returns false'. Refute it at one input. -/
def bigintNearWrong : ChangeSpec := { name := "bigintNear", fn := fun _ => fun
  | [d1, d2] => { results := [.lit (.bool false)], args := [d1, d2] }
  | _ => none }
def BigintNearWrongFalsely : Prop := bigintNearRow.holds Try.pinned (OpenSpec.ofChange bigintNearWrong)

/- THE SECOND FORM. 'bulk': how many values and letters a reading holds, each counted each time it is reached (what is shared counts as often as it is met; a slice's spare places count too). A statement '..UptoSaid' is the law's where the arguments, and the package variables that the reading takes, are together of bulk at most 1048576: NARROWER than '..Said'. Prove '..Said' where nothing that the law and all that it calls make is longer than what came in: it says more and counts as full. Else prove '..UptoSaid'. A law counts once. -/
mutual
def uptoBulk {H : Type} : DataW H → Nat
  | .lit (.string bytes) => bytes.length + 1
  | .lit _ => 1
  | .nil => 1
  | .ptr d => uptoBulk d + 1
  | .slice elems spare => uptoBulkAll elems + uptoBulkAll spare + 1
  | .agg parts => uptoBulkAll parts + 1
  | .iface _ d => uptoBulk d + 1
  | .map entries => uptoBulkEntries entries + 1
  | .held _ => 1
def uptoBulkAll {H : Type} : List (DataW H) → Nat
  | [] => 0
  | d :: r => uptoBulk d + uptoBulkAll r
def uptoBulkEntries {H : Type} : List (Lit × DataW H) → Nat
  | [] => 0
  | x :: r => uptoBulkEntry x + uptoBulkEntries r
def uptoBulkEntry {H : Type} : Lit × DataW H → Nat
  | (.string bytes, d) => bytes.length + uptoBulk d + 1
  | (_, d) => uptoBulk d + 1
 end
def uptoSmall : (H : Type) → List (DataW H) → Bool := fun _ ds => decide (uptoBulkAll ds ≤ 1048576)
def OpenSpec.upto (s : _root_.Go.ChangeSpec) : _root_.Go.OpenSpec := { _root_.Go.OpenSpec.ofChange s with cond := some uptoSmall }

/-- 'hornbeamlaw01.BigintDivides', WHERE WHAT IT READS IS OF BULK AT MOST 1048576: true; the input reads as it did. -/
def bigintDividesUptoRow : OpenClaim := { program := "ytggdmhkdmkldoaa", sum := "56af93c1e1dc144f58e278d805319f6511f76583acb84c6a8dbe3c0e305a3850", func := "hornbeam/hornbeamlaw01.BigintDivides", spec := "bigintDivides", named := ["math/bits.overflowError"], apart := false, narrowed := true }
def BigintDividesUptoSaid : Prop := bigintDividesUptoRow.holds Try.pinned (OpenSpec.upto bigintDividesSpec)

/-- 'hornbeamlaw01.BigintTexts', WHERE WHAT IT READS IS OF BULK AT MOST 1048576: true; the input reads as it did. -/
def bigintTextsUptoRow : OpenClaim := { program := "ytggdmhkdmkldoaa", sum := "56af93c1e1dc144f58e278d805319f6511f76583acb84c6a8dbe3c0e305a3850", func := "hornbeam/hornbeamlaw01.BigintTexts", spec := "bigintTexts", named := ["math/bits.overflowError"], apart := false, narrowed := true }
def BigintTextsUptoSaid : Prop := bigintTextsUptoRow.holds Try.pinned (OpenSpec.upto bigintTextsSpec)

/-- 'hornbeamlaw01.BigintReads', WHERE WHAT IT READS IS OF BULK AT MOST 1048576: true; the input reads as it did. -/
def bigintReadsUptoRow : OpenClaim := { program := "ytggdmhkdmkldoaa", sum := "56af93c1e1dc144f58e278d805319f6511f76583acb84c6a8dbe3c0e305a3850", func := "hornbeam/hornbeamlaw01.BigintReads", spec := "bigintReads", named := ["math/bits.overflowError"], apart := false, narrowed := true }
def BigintReadsUptoSaid : Prop := bigintReadsUptoRow.holds Try.pinned (OpenSpec.upto bigintReadsSpec)

/-- 'hornbeamlaw01.BigintForms', WHERE WHAT IT READS IS OF BULK AT MOST 1048576: true; the input reads as it did. -/
def bigintFormsUptoRow : OpenClaim := { program := "ytggdmhkdmkldoaa", sum := "56af93c1e1dc144f58e278d805319f6511f76583acb84c6a8dbe3c0e305a3850", func := "hornbeam/hornbeamlaw01.BigintForms", spec := "bigintForms", named := ["math/bits.overflowError"], apart := false, narrowed := true }
def BigintFormsUptoSaid : Prop := bigintFormsUptoRow.holds Try.pinned (OpenSpec.upto bigintFormsSpec)

/-- 'hornbeamlaw01.BigintParts', WHERE WHAT IT READS IS OF BULK AT MOST 1048576: true; the input reads as it did. -/
def bigintPartsUptoRow : OpenClaim := { program := "ytggdmhkdmkldoaa", sum := "56af93c1e1dc144f58e278d805319f6511f76583acb84c6a8dbe3c0e305a3850", func := "hornbeam/hornbeamlaw01.BigintParts", spec := "bigintParts", named := ["math/bits.overflowError"], apart := false, narrowed := true }
def BigintPartsUptoSaid : Prop := bigintPartsUptoRow.holds Try.pinned (OpenSpec.upto bigintPartsSpec)

/-- 'hornbeamlaw01.BigintSums', WHERE WHAT IT READS IS OF BULK AT MOST 1048576: true; the input reads as it did. -/
def bigintSumsUptoRow : OpenClaim := { program := "ytggdmhkdmkldoaa", sum := "56af93c1e1dc144f58e278d805319f6511f76583acb84c6a8dbe3c0e305a3850", func := "hornbeam/hornbeamlaw01.BigintSums", spec := "bigintSums", named := ["math/bits.overflowError"], apart := false, narrowed := true }
def BigintSumsUptoSaid : Prop := bigintSumsUptoRow.holds Try.pinned (OpenSpec.upto bigintSumsSpec)

/-- 'hornbeamlaw01.BigintRings', WHERE WHAT IT READS IS OF BULK AT MOST 1048576: true; the input reads as it did. -/
def bigintRingsUptoRow : OpenClaim := { program := "ytggdmhkdmkldoaa", sum := "56af93c1e1dc144f58e278d805319f6511f76583acb84c6a8dbe3c0e305a3850", func := "hornbeam/hornbeamlaw01.BigintRings", spec := "bigintRings", named := ["math/bits.overflowError"], apart := false, narrowed := true }
def BigintRingsUptoSaid : Prop := bigintRingsUptoRow.holds Try.pinned (OpenSpec.upto bigintRingsSpec)

/-- 'hornbeamlaw01.BigintPowers', WHERE WHAT IT READS IS OF BULK AT MOST 1048576: true; the input reads as it did. -/
def bigintPowersUptoRow : OpenClaim := { program := "ytggdmhkdmkldoaa", sum := "56af93c1e1dc144f58e278d805319f6511f76583acb84c6a8dbe3c0e305a3850", func := "hornbeam/hornbeamlaw01.BigintPowers", spec := "bigintPowers", named := ["math/bits.overflowError"], apart := false, narrowed := true }
def BigintPowersUptoSaid : Prop := bigintPowersUptoRow.holds Try.pinned (OpenSpec.upto bigintPowersSpec)

/-- 'hornbeamlaw01.BigintBits', WHERE WHAT IT READS IS OF BULK AT MOST 1048576: true; the input reads as it did. -/
def bigintBitsUptoRow : OpenClaim := { program := "ytggdmhkdmkldoaa", sum := "56af93c1e1dc144f58e278d805319f6511f76583acb84c6a8dbe3c0e305a3850", func := "hornbeam/hornbeamlaw01.BigintBits", spec := "bigintBits", unfollowed := true, recurses := true, named := ["math/bits.overflowError"], apart := false, narrowed := true }
def BigintBitsUptoSaid : Prop := bigintBitsUptoRow.holds Try.pinned (OpenSpec.upto bigintBitsSpec)

/-- 'hornbeamlaw01.BigintShifts', WHERE WHAT IT READS IS OF BULK AT MOST 1048576: true; the input reads as it did. -/
def bigintShiftsUptoRow : OpenClaim := { program := "ytggdmhkdmkldoaa", sum := "56af93c1e1dc144f58e278d805319f6511f76583acb84c6a8dbe3c0e305a3850", func := "hornbeam/hornbeamlaw01.BigintShifts", spec := "bigintShifts", named := ["math/bits.overflowError"], apart := false, narrowed := true }
def BigintShiftsUptoSaid : Prop := bigintShiftsUptoRow.holds Try.pinned (OpenSpec.upto bigintShiftsSpec)

/-- 'hornbeamlaw01.BigintSets', WHERE WHAT IT READS IS OF BULK AT MOST 1048576: true; the input reads as it did. -/
def bigintSetsUptoRow : OpenClaim := { program := "ytggdmhkdmkldoaa", sum := "56af93c1e1dc144f58e278d805319f6511f76583acb84c6a8dbe3c0e305a3850", func := "hornbeam/hornbeamlaw01.BigintSets", spec := "bigintSets", unfollowed := true, recurses := true, named := ["math/bits.overflowError"], apart := false, narrowed := true }
def BigintSetsUptoSaid : Prop := bigintSetsUptoRow.holds Try.pinned (OpenSpec.upto bigintSetsSpec)

/-- 'hornbeamlaw01.BigintFloats', WHERE WHAT IT READS IS OF BULK AT MOST 1048576: true; the input reads as it did. -/
def bigintFloatsUptoRow : OpenClaim := { program := "ytggdmhkdmkldoaa", sum := "56af93c1e1dc144f58e278d805319f6511f76583acb84c6a8dbe3c0e305a3850", func := "hornbeam/hornbeamlaw01.BigintFloats", spec := "bigintFloats", inPlace := ["math.Float64bits", "math.Float64frombits"], named := ["math/bits.overflowError"], apart := false, narrowed := true }
def BigintFloatsUptoSaid : Prop := bigintFloatsUptoRow.holds Try.pinned (OpenSpec.upto bigintFloatsSpec)

/-- 'hornbeamlaw01.BigintNear', WHERE WHAT IT READS IS OF BULK AT MOST 1048576: true; the input reads as it did. -/
def bigintNearUptoRow : OpenClaim := { program := "ytggdmhkdmkldoaa", sum := "56af93c1e1dc144f58e278d805319f6511f76583acb84c6a8dbe3c0e305a3850", func := "hornbeam/hornbeamlaw01.BigintNear", spec := "bigintNear", inPlace := ["math.Float64bits", "math.Float64frombits"], named := ["math/bits.overflowError"], apart := false, narrowed := true }
def BigintNearUptoSaid : Prop := bigintNearUptoRow.holds Try.pinned (OpenSpec.upto bigintNearSpec)

end Rows
end Go.Proofs.Ytggdmhkdmkldoaa

/-
  No cell of these rows narrows 'for every input' (looked for: loops, veiled, ifaces, maps, wideKeys, modest, calm, conditions, laid).
  DERIVED. THE GIVEN ROWS OF THIS SEAT. 3 by the template 'for every input the law returns true; each argument reads behind the call as it read before'; 0 by the template 'total and deterministic' (their statements: YtpikjceodmepiaaTotals.lean).
  GIVEN WITH THE SEED: the statements are not yours to turn. If you find one false, say at which input.
  Laid BY PROGRAM, IN A SANDBOX (cutbox-rows.mjs): the forced cells as the released guide's own fill.sh prints them over the translation 3883d16e7b43b300… (all of the seat's roots in one cut). By AI agents, Wed Nov 11 2026. No macro, syntax, notation, axiom, sorry.
-/
import Derived.Test.YtpikjceodmepiaaChecked
import GoSem.Claim
import GoSem.ClaimJoined
import GoSem.ClaimMapViews
import Derived.JoinedTies
import Derived.KernelRfl
namespace Go.Proofs.Ytpikjceodmepiaa
/- THE CELL 'sum', in the pinned program and in every row, IS THE sha256 OF THE DUMP (.gsa) THAT YtpikjceodmepiaaProg.lean LOADS. Nothing in Lean hashes anything: it is a label: what it is worth is what the hold of that sum in a sandbox is worth. -/
noncomputable def Try.pinned : Pinned := { name := "ytpikjceodmepiaa", sum := "3883d16e7b43b3007baed6a5f3b4c33b00f0a1a1898787dce886a2c00c983bed", checked := Try.checked }
namespace Rows
def none {H : Type} : Left H := { results := [], args := [] }

/-- 'hornbeamlaw09.FddomMakes': WHATEVER THE INPUT: true; the input reads as it did. -/
def fddomMakesSpec : ChangeSpec := { name := "fddomMakes", fn := fun _ => fun
  | [d1, d2, d3] => { results := [.lit (.bool true)], args := [d1, d2, d3] }
  | _ => none }
def fddomMakesRow : OpenClaim := { program := "ytpikjceodmepiaa", sum := "3883d16e7b43b3007baed6a5f3b4c33b00f0a1a1898787dce886a2c00c983bed", func := "hornbeam/hornbeamlaw09.FddomMakes", spec := "fddomMakes", unfollowed := true, recurses := true, apart := false }
def FddomMakesSaid : Prop := fddomMakesRow.holds Try.pinned (OpenSpec.ofChange fddomMakesSpec)

/-- ITS FALSE NEIGHBOUR: 'it returns false'. Refute it at one input. -/
def fddomMakesWrong : ChangeSpec := { name := "fddomMakes", fn := fun _ => fun
  | [d1, d2, d3] => { results := [.lit (.bool false)], args := [d1, d2, d3] }
  | _ => none }
def FddomMakesWrongFalsely : Prop := fddomMakesRow.holds Try.pinned (OpenSpec.ofChange fddomMakesWrong)

/-- 'hornbeamlaw09.FddomSets': WHATEVER THE INPUT: true; the input reads as it did. -/
def fddomSetsSpec : ChangeSpec := { name := "fddomSets", fn := fun _ => fun
  | [d1, d2, d3] => { results := [.lit (.bool true)], args := [d1, d2, d3] }
  | _ => none }
def fddomSetsRow : OpenClaim := { program := "ytpikjceodmepiaa", sum := "3883d16e7b43b3007baed6a5f3b4c33b00f0a1a1898787dce886a2c00c983bed", func := "hornbeam/hornbeamlaw09.FddomSets", spec := "fddomSets", unfollowed := true, recurses := true, apart := false }
def FddomSetsSaid : Prop := fddomSetsRow.holds Try.pinned (OpenSpec.ofChange fddomSetsSpec)

/-- ITS FALSE NEIGHBOUR: 'it returns false'. Refute it at one input. -/
def fddomSetsWrong : ChangeSpec := { name := "fddomSets", fn := fun _ => fun
  | [d1, d2, d3] => { results := [.lit (.bool false)], args := [d1, d2, d3] }
  | _ => none }
def FddomSetsWrongFalsely : Prop := fddomSetsRow.holds Try.pinned (OpenSpec.ofChange fddomSetsWrong)

/-- 'hornbeamlaw09.FddomWalks': WHATEVER THE INPUT: true; the input reads as it did. -/
def fddomWalksSpec : ChangeSpec := { name := "fddomWalks", fn := fun _ => fun
  | [d] => { results := [.lit (.bool true)], args := [d] }
  | _ => none }
def fddomWalksRow : OpenClaim := { program := "ytpikjceodmepiaa", sum := "3883d16e7b43b3007baed6a5f3b4c33b00f0a1a1898787dce886a2c00c983bed", func := "hornbeam/hornbeamlaw09.FddomWalks", spec := "fddomWalks", unfollowed := true, recurses := true, apart := false }
def FddomWalksSaid : Prop := fddomWalksRow.holds Try.pinned (OpenSpec.ofChange fddomWalksSpec)

/-- ITS FALSE NEIGHBOUR: 'it returns false'. Refute it at one input. -/
def fddomWalksWrong : ChangeSpec := { name := "fddomWalks", fn := fun _ => fun
  | [d] => { results := [.lit (.bool false)], args := [d] }
  | _ => none }
def FddomWalksWrongFalsely : Prop := fddomWalksRow.holds Try.pinned (OpenSpec.ofChange fddomWalksWrong)

/- THE SECOND FORM. 'bulk': how many values and letters a reading holds, each counted each time it is reached (what is shared counts as often as it is met; a slice's spare places count too). A statement '..UptoSaid' is the law's where the arguments, and the package variables that the reading takes, are together of bulk at most 1048576: NARROWER than '..Said'. Prove '..Said' where nothing that the law and all that it calls make is longer than what came in: it says more and counts as full. Else prove '..UptoSaid'. A law counts once. -/
mutual
def uptoBulk {H : Type} : DataW H → Nat
  | .lit (.string bytes) => bytes.length + 1
  | .lit _ => 1
  | .nil => 1
  | .ptr d => uptoBulk d + 1
  | .slice elems spare => uptoBulkAll elems + uptoBulkAll spare + 1
  | .agg parts => uptoBulkAll parts + 1
  | .iface _ d => uptoBulk d + 1
  | .map entries => uptoBulkEntries entries + 1
  | .held _ => 1
def uptoBulkAll {H : Type} : List (DataW H) → Nat
  | [] => 0
  | d :: r => uptoBulk d + uptoBulkAll r
def uptoBulkEntries {H : Type} : List (Lit × DataW H) → Nat
  | [] => 0
  | x :: r => uptoBulkEntry x + uptoBulkEntries r
def uptoBulkEntry {H : Type} : Lit × DataW H → Nat
  | (.string bytes, d) => bytes.length + uptoBulk d + 1
  | (_, d) => uptoBulk d + 1
 end
def uptoSmall : (H : Type) → List (DataW H) → Bool := fun _ ds => decide (uptoBulkAll ds ≤ 1048576)
def OpenSpec.upto (s : _root_.Go.ChangeSpec) : _root_.Go.OpenSpec := { _root_.Go.OpenSpec.ofChange s with cond := some uptoSmall }

/-- 'hornbeamlaw09.FddomMakes', WHERE WHAT IT READS IS OF BULK AT MOST 1048576: true; the input reads as it did. -/
def fddomMakesUptoRow : OpenClaim := { program := "ytpikjceodmepiaa", sum := "3883d16e7b43b3007baed6a5f3b4c33b00f0a1a1898787dce886a2c00c983bed", func := "hornbeam/hornbeamlaw09.FddomMakes", spec := "fddomMakes", unfollowed := true, recurses := true, apart := false, narrowed := true }
def FddomMakesUptoSaid : Prop := fddomMakesUptoRow.holds Try.pinned (OpenSpec.upto fddomMakesSpec)

/-- 'hornbeamlaw09.FddomSets', WHERE WHAT IT READS IS OF BULK AT MOST 1048576: true; the input reads as it did. -/
def fddomSetsUptoRow : OpenClaim := { program := "ytpikjceodmepiaa", sum := "3883d16e7b43b3007baed6a5f3b4c33b00f0a1a1898787dce886a2c00c983bed", func := "hornbeam/hornbeamlaw09.FddomSets", spec := "fddomSets", unfollowed := true, recurses := true, apart := false, narrowed := true }
def FddomSetsUptoSaid : Prop := fddomSetsUptoRow.holds Try.pinned (OpenSpec.upto fddomSetsSpec)

/-- 'hornbeamlaw09.FddomWalks', WHERE WHAT IT READS IS OF BULK AT MOST 1048576: true; the input reads as it did. -/
def fddomWalksUptoRow : OpenClaim := { program := "ytpikjceodmepiaa", sum := "3883d16e7b43b3007baed6a5f3b4c33b00f0a1a1898787dce886a2c00c983bed", func := "hornbeam/hornbeamlaw09.FddomWalks", spec := "fddomWalks", unfollowed := true, recurses := true, apart := false, narrowed := true }
def FddomWalksUptoSaid : Prop := fddomWalksUptoRow.holds Try.pinned (OpenSpec.upto fddomWalksSpec)

end Rows
end Go.Proofs.Ytpikjceodmepiaa

/-
  NARROWER THAN 'FOR EVERY INPUT', by the rows' own cells (each row's printed sentence says how): DcgRules: loops, laid · DcgBodies: loops, laid · DcgLists: loops, laid · DcgFresh: loops, laid.
  DERIVED. THE GIVEN ROWS OF THIS SEAT. 4 by the template 'for every input the law returns true; each argument reads behind the call as it read before'; 0 by the template 'total and deterministic' (their statements: YtgfeainpeplphaaDoorTotals.lean).
  GIVEN WITH THE SEED: the statements are not yours to turn. If you find one false, say at which input.
  Laid BY PROGRAM, IN A SANDBOX (cutbox-rows.mjs): the forced cells as the released guide's own fill.sh prints them over the translation f893b73a2621323f… (all of the seat's roots in one cut). By AI agents, Wed Nov 11 2026. No macro, syntax, notation, axiom, sorry.
-/
import Derived.Test.YtgfeainpeplphaaDoorChecked
import GoSem.PinnedTables
import GoSem.Claim
import GoSem.ClaimJoined
import GoSem.ClaimMapViews
import Derived.JoinedTies
import Derived.KernelRfl
namespace Go.Proofs.YtgfeainpeplphaaDoor
/- THE CELL 'sum', in the pinned program and in every row, IS THE sha256 OF THE DUMP (.gsa) THAT YtgfeainpeplphaaDoorProg.lean LOADS. Nothing in Lean hashes anything: it is a label: what it is worth is what the hold of that sum in a sandbox is worth. -/
noncomputable def Tryd.pinned : Pinned := { name := "ytgfeainpeplphaadoor", sum := "f893b73a2621323f8661adec4d718ca03db96a9d26e348c8b45c64d68c3d3d24", checked := Tryd.checked }
namespace Rows
def none {H : Type} : Left H := { results := [], args := [] }

/- WHAT THE LISTED PACKAGE-LEVEL VARIABLES READ AS WHEN THE CALL BEGINS. Each datum BY PROGRAM (the guide's laid-datum.mjs) off the statement by which the dump's own 'gosem.cut.vars' lays the variable. In a bare row this is a premise. The card (YtgfeainpeplphaaDoorCards.lean) ties it to the program's text. -/
def laid_unicode_utf8_acceptRanges {H : Type} : DataW H := .agg [.agg [.lit (.int .u8 128), .lit (.int .u8 191)], .agg [.lit (.int .u8 160), .lit (.int .u8 191)], .agg [.lit (.int .u8 128), .lit (.int .u8 159)], .agg [.lit (.int .u8 144), .lit (.int .u8 191)], .agg [.lit (.int .u8 128), .lit (.int .u8 143)], .agg [.lit (.int .u8 0), .lit (.int .u8 0)], .agg [.lit (.int .u8 0), .lit (.int .u8 0)], .agg [.lit (.int .u8 0), .lit (.int .u8 0)], .agg [.lit (.int .u8 0), .lit (.int .u8 0)], .agg [.lit (.int .u8 0), .lit (.int .u8 0)], .agg [.lit (.int .u8 0), .lit (.int .u8 0)], .agg [.lit (.int .u8 0), .lit (.int .u8 0)], .agg [.lit (.int .u8 0), .lit (.int .u8 0)], .agg [.lit (.int .u8 0), .lit (.int .u8 0)], .agg [.lit (.int .u8 0), .lit (.int .u8 0)], .agg [.lit (.int .u8 0), .lit (.int .u8 0)]]
/-- One of Go's own tables, pinned by name: the form's constant. -/
def laid_unicode_utf8_first : DataW Unit := Go.Pinned.utf8First

/-- 'hornbeamlaw10.DcgRules': WHATEVER THE INPUT: true; the input reads as it did. -/
def dcgRulesSpec : ChangeSpec := { name := "dcgRules", fn := fun _ => fun
  | [d] => { results := [.lit (.bool true)], args := [d] }
  | _ => none }
def dcgRulesRow : OpenClaim := { program := "ytgfeainpeplphaadoor", sum := "f893b73a2621323f8661adec4d718ca03db96a9d26e348c8b45c64d68c3d3d24", func := "hornbeam/hornbeamlaw10.DcgRules", spec := "dcgRules", inPlace := ["math.Float64frombits", "math.Float64bits"], unfollowed := true, recurses := true, named := ["unicode/utf8.first", "unicode/utf8.acceptRanges", "math/bits.overflowError"], loops := true, apart := false, laid := [("unicode/utf8.acceptRanges", laid_unicode_utf8_acceptRanges), ("unicode/utf8.first", laid_unicode_utf8_first)] }
def DcgRulesSaid : Prop := dcgRulesRow.holds Tryd.pinned (OpenSpec.ofChange dcgRulesSpec)

/-- ITS FALSE NEIGHBOUR: 'it returns false'. Refute it at one input. -/
def dcgRulesWrong : ChangeSpec := { name := "dcgRules", fn := fun _ => fun
  | [d] => { results := [.lit (.bool false)], args := [d] }
  | _ => none }
def DcgRulesWrongFalsely : Prop := dcgRulesRow.holds Tryd.pinned (OpenSpec.ofChange dcgRulesWrong)

/-- 'hornbeamlaw10.DcgBodies': WHATEVER THE INPUT: true; the input reads as it did. -/
def dcgBodiesSpec : ChangeSpec := { name := "dcgBodies", fn := fun _ => fun
  | [d1, d2, d3, d4] => { results := [.lit (.bool true)], args := [d1, d2, d3, d4] }
  | _ => none }
def dcgBodiesRow : OpenClaim := { program := "ytgfeainpeplphaadoor", sum := "f893b73a2621323f8661adec4d718ca03db96a9d26e348c8b45c64d68c3d3d24", func := "hornbeam/hornbeamlaw10.DcgBodies", spec := "dcgBodies", inPlace := ["math.Float64frombits", "math.Float64bits"], unfollowed := true, recurses := true, named := ["unicode/utf8.first", "unicode/utf8.acceptRanges", "math/bits.overflowError"], loops := true, apart := false, laid := [("unicode/utf8.acceptRanges", laid_unicode_utf8_acceptRanges), ("unicode/utf8.first", laid_unicode_utf8_first)] }
def DcgBodiesSaid : Prop := dcgBodiesRow.holds Tryd.pinned (OpenSpec.ofChange dcgBodiesSpec)

/-- ITS FALSE NEIGHBOUR: 'it returns false'. Refute it at one input. -/
def dcgBodiesWrong : ChangeSpec := { name := "dcgBodies", fn := fun _ => fun
  | [d1, d2, d3, d4] => { results := [.lit (.bool false)], args := [d1, d2, d3, d4] }
  | _ => none }
def DcgBodiesWrongFalsely : Prop := dcgBodiesRow.holds Tryd.pinned (OpenSpec.ofChange dcgBodiesWrong)

/-- 'hornbeamlaw10.DcgLists': WHATEVER THE INPUT: true; the input reads as it did. -/
def dcgListsSpec : ChangeSpec := { name := "dcgLists", fn := fun _ => fun
  | [d1, d2, d3] => { results := [.lit (.bool true)], args := [d1, d2, d3] }
  | _ => none }
def dcgListsRow : OpenClaim := { program := "ytgfeainpeplphaadoor", sum := "f893b73a2621323f8661adec4d718ca03db96a9d26e348c8b45c64d68c3d3d24", func := "hornbeam/hornbeamlaw10.DcgLists", spec := "dcgLists", inPlace := ["math.Float64frombits", "math.Float64bits"], unfollowed := true, recurses := true, named := ["unicode/utf8.first", "unicode/utf8.acceptRanges", "math/bits.overflowError"], loops := true, apart := false, laid := [("unicode/utf8.acceptRanges", laid_unicode_utf8_acceptRanges), ("unicode/utf8.first", laid_unicode_utf8_first)] }
def DcgListsSaid : Prop := dcgListsRow.holds Tryd.pinned (OpenSpec.ofChange dcgListsSpec)

/-- ITS FALSE NEIGHBOUR: 'it returns false'. Refute it at one input. -/
def dcgListsWrong : ChangeSpec := { name := "dcgLists", fn := fun _ => fun
  | [d1, d2, d3] => { results := [.lit (.bool false)], args := [d1, d2, d3] }
  | _ => none }
def DcgListsWrongFalsely : Prop := dcgListsRow.holds Tryd.pinned (OpenSpec.ofChange dcgListsWrong)

/-- 'hornbeamlaw10.DcgFresh': WHATEVER THE INPUT: true; the input reads as it did. -/
def dcgFreshSpec : ChangeSpec := { name := "dcgFresh", fn := fun _ => fun
  | [d] => { results := [.lit (.bool true)], args := [d] }
  | _ => none }
def dcgFreshRow : OpenClaim := { program := "ytgfeainpeplphaadoor", sum := "f893b73a2621323f8661adec4d718ca03db96a9d26e348c8b45c64d68c3d3d24", func := "hornbeam/hornbeamlaw10.DcgFresh", spec := "dcgFresh", inPlace := ["math.Float64frombits", "math.Float64bits"], unfollowed := true, recurses := true, named := ["unicode/utf8.first", "unicode/utf8.acceptRanges", "math/bits.overflowError"], loops := true, apart := false, laid := [("unicode/utf8.acceptRanges", laid_unicode_utf8_acceptRanges), ("unicode/utf8.first", laid_unicode_utf8_first)] }
def DcgFreshSaid : Prop := dcgFreshRow.holds Tryd.pinned (OpenSpec.ofChange dcgFreshSpec)

/-- ITS FALSE NEIGHBOUR: 'it returns false'. Refute it at one input. -/
def dcgFreshWrong : ChangeSpec := { name := "dcgFresh", fn := fun _ => fun
  | [d] => { results := [.lit (.bool false)], args := [d] }
  | _ => none }
def DcgFreshWrongFalsely : Prop := dcgFreshRow.holds Tryd.pinned (OpenSpec.ofChange dcgFreshWrong)

/- THE SECOND FORM. 'bulk': how many values and letters a reading holds, each counted each time it is reached (what is shared counts as often as it is met; a slice's spare places count too). A statement '..UptoSaid' is the law's where the arguments, and the package variables that the reading takes, are together of bulk at most 1048576: NARROWER than '..Said'. Prove '..Said' where nothing that the law and all that it calls make is longer than what came in: it says more and counts as full. Else prove '..UptoSaid'. A law counts once. -/
mutual
def uptoBulk {H : Type} : DataW H → Nat
  | .lit (.string bytes) => bytes.length + 1
  | .lit _ => 1
  | .nil => 1
  | .ptr d => uptoBulk d + 1
  | .slice elems spare => uptoBulkAll elems + uptoBulkAll spare + 1
  | .agg parts => uptoBulkAll parts + 1
  | .iface _ d => uptoBulk d + 1
  | .map entries => uptoBulkEntries entries + 1
  | .held _ => 1
def uptoBulkAll {H : Type} : List (DataW H) → Nat
  | [] => 0
  | d :: r => uptoBulk d + uptoBulkAll r
def uptoBulkEntries {H : Type} : List (Lit × DataW H) → Nat
  | [] => 0
  | x :: r => uptoBulkEntry x + uptoBulkEntries r
def uptoBulkEntry {H : Type} : Lit × DataW H → Nat
  | (.string bytes, d) => bytes.length + uptoBulk d + 1
  | (_, d) => uptoBulk d + 1
 end
def uptoSmall : (H : Type) → List (DataW H) → Bool := fun _ ds => decide (uptoBulkAll ds ≤ 1048576)
def OpenSpec.upto (s : _root_.Go.ChangeSpec) : _root_.Go.OpenSpec := { _root_.Go.OpenSpec.ofChange s with cond := some uptoSmall }

/-- 'hornbeamlaw10.DcgRules', WHERE WHAT IT READS IS OF BULK AT MOST 1048576: true; the input reads as it did. -/
def dcgRulesUptoRow : OpenClaim := { program := "ytgfeainpeplphaadoor", sum := "f893b73a2621323f8661adec4d718ca03db96a9d26e348c8b45c64d68c3d3d24", func := "hornbeam/hornbeamlaw10.DcgRules", spec := "dcgRules", inPlace := ["math.Float64frombits", "math.Float64bits"], unfollowed := true, recurses := true, named := ["unicode/utf8.first", "unicode/utf8.acceptRanges", "math/bits.overflowError"], loops := true, apart := false, laid := [("unicode/utf8.acceptRanges", laid_unicode_utf8_acceptRanges), ("unicode/utf8.first", laid_unicode_utf8_first)], narrowed := true }
def DcgRulesUptoSaid : Prop := dcgRulesUptoRow.holds Tryd.pinned (OpenSpec.upto dcgRulesSpec)

/-- 'hornbeamlaw10.DcgBodies', WHERE WHAT IT READS IS OF BULK AT MOST 1048576: true; the input reads as it did. -/
def dcgBodiesUptoRow : OpenClaim := { program := "ytgfeainpeplphaadoor", sum := "f893b73a2621323f8661adec4d718ca03db96a9d26e348c8b45c64d68c3d3d24", func := "hornbeam/hornbeamlaw10.DcgBodies", spec := "dcgBodies", inPlace := ["math.Float64frombits", "math.Float64bits"], unfollowed := true, recurses := true, named := ["unicode/utf8.first", "unicode/utf8.acceptRanges", "math/bits.overflowError"], loops := true, apart := false, laid := [("unicode/utf8.acceptRanges", laid_unicode_utf8_acceptRanges), ("unicode/utf8.first", laid_unicode_utf8_first)], narrowed := true }
def DcgBodiesUptoSaid : Prop := dcgBodiesUptoRow.holds Tryd.pinned (OpenSpec.upto dcgBodiesSpec)

/-- 'hornbeamlaw10.DcgLists', WHERE WHAT IT READS IS OF BULK AT MOST 1048576: true; the input reads as it did. -/
def dcgListsUptoRow : OpenClaim := { program := "ytgfeainpeplphaadoor", sum := "f893b73a2621323f8661adec4d718ca03db96a9d26e348c8b45c64d68c3d3d24", func := "hornbeam/hornbeamlaw10.DcgLists", spec := "dcgLists", inPlace := ["math.Float64frombits", "math.Float64bits"], unfollowed := true, recurses := true, named := ["unicode/utf8.first", "unicode/utf8.acceptRanges", "math/bits.overflowError"], loops := true, apart := false, laid := [("unicode/utf8.acceptRanges", laid_unicode_utf8_acceptRanges), ("unicode/utf8.first", laid_unicode_utf8_first)], narrowed := true }
def DcgListsUptoSaid : Prop := dcgListsUptoRow.holds Tryd.pinned (OpenSpec.upto dcgListsSpec)

/-- 'hornbeamlaw10.DcgFresh', WHERE WHAT IT READS IS OF BULK AT MOST 1048576: true; the input reads as it did. -/
def dcgFreshUptoRow : OpenClaim := { program := "ytgfeainpeplphaadoor", sum := "f893b73a2621323f8661adec4d718ca03db96a9d26e348c8b45c64d68c3d3d24", func := "hornbeam/hornbeamlaw10.DcgFresh", spec := "dcgFresh", inPlace := ["math.Float64frombits", "math.Float64bits"], unfollowed := true, recurses := true, named := ["unicode/utf8.first", "unicode/utf8.acceptRanges", "math/bits.overflowError"], loops := true, apart := false, laid := [("unicode/utf8.acceptRanges", laid_unicode_utf8_acceptRanges), ("unicode/utf8.first", laid_unicode_utf8_first)], narrowed := true }
def DcgFreshUptoSaid : Prop := dcgFreshUptoRow.holds Tryd.pinned (OpenSpec.upto dcgFreshSpec)

end Rows
end Go.Proofs.YtgfeainpeplphaaDoor

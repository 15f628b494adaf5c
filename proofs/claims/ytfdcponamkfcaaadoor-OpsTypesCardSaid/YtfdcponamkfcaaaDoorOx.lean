/- The law OpsTypes of layer 4: said, and its card. -/
import Derived.Test.YtfdcponamkfcaaaDoorOw
import Derived.Lay
import Derived.Deep.DeepHandedRow
import Derived.Deep.DeepWitnessRowRef
import Derived.Lib.LaidTab
namespace Go.Proofs.YtfdcponamkfcaaaDoor
open Go.ChangeShapes Go.WideShapes Go.ChangeAt Go.RowKit Go.Joins Ho

theorem ws_global : Tryd.prog.globalNamed "unicode.White_Space" = some 1 := by kernel_rfl
set_option maxRecDepth 1000000 in
/-- the listed variables' blocks are there -/
theorem laid_two {W : World} (h : laidMetH Tryd.prog Rows.opsTypesRow.laid W) : 2 ≤ W.heap.size := by
  have hr := Lib.laidMet.reads h (n := "unicode.White_Space") (d := Rows.laid_unicode_White_Space) (List.Mem.head _)
  obtain ⟨g', t', cs, fuel, p, hg', ht', hvar, hd⟩ := hr
  unfold World.var? at hvar
  rw [ws_global] at hvar
  refine Decidable.byContradiction fun hn => ?_
  have : W.heap[1]? = none := Array.getElem?_eq_none (by omega)
  simp only [Option.bind_some, this] at hvar
  cases hvar

theorem opsOwn : ownKnob Tryd.prog.godebug = none := by kernel_rfl
noncomputable def opsWorld (os : Os) : World := World.laidAll Tryd.prog os Rows.opsTypesRow.laid
theorem opsWorld_met (os : Os) (args : Array Value) : laidMetH Tryd.prog Rows.opsTypesRow.laid ((opsWorld os).forCall (fun _ _ => 0) ⟨#[], args, []⟩).memory := by
  rw [MakeChecks.laidMetH_plain _ _ _ (by kernel_rfl)]
  exact laidMet_laidAll _ (by kernel_rfl) (by kernel_rfl)
theorem types_reads (os : Os) {H : Type} (enc : TypeId × Value → H) : ∃ places, DataW.whole enc Tryd.prog ((opsWorld os).forCall (fun _ _ => 0) ⟨#[], #[.agg #[.string ⟨#[]⟩, .int .i64 0, .int .i64 0], .string ⟨#[]⟩, .int .i64 0], []⟩).memory Tryd.f3.params.toList Rows.opsTypesSpec.vars false #[Value.agg #[.string ⟨#[]⟩, .int .i64 0, .int .i64 0], .string ⟨#[]⟩, .int .i64 0].toList 8 =
    some ([.agg [.lit (.string []), .lit (.int .i64 0), .lit (.int .i64 0)], .lit (.string []), .lit (.int .i64 0)], [], places) :=
  ⟨[], by kernel_rfl⟩

set_option maxRecDepth 100000 in
theorem types_lifted (os : Os) (started : os.Started) (H : Type) (enc : TypeId × Value → H) (F : Stop.Interp) :
    ReturnsInHanded {} Tryd.checked os 3 .any ((OpenSpec.ofChange Rows.opsTypesSpec).preRow enc Tryd.prog Tryd.f3 Rows.opsTypesRow.domain false Rows.opsTypesRow.laid) (((OpenSpec.ofChange Rows.opsTypesSpec).at F).post enc Tryd.prog Tryd.f3 false true false false) := by
  obtain ⟨places, hx⟩ := types_reads os enc
  refine returnsInHanded_of_row (C := Tryd.checked) (s := OpenSpec.ofChange Rows.opsTypesSpec) opsOwn started (by kernel_rfl) Tryd.func3
    (witness_row_atRef (enc := enc) (C := Tryd.checked) false (opsWorld os) #[.agg #[.string ⟨#[]⟩, .int .i64 0, .int .i64 0], .string ⟨#[]⟩, .int .i64 0] (World.laidAll_os _ _ _) (by kernel_rfl) (by kernel_rfl) (by kernel_rfl)
      (OpenSpec.preRow_of_cond 8 hx (by kernel_rfl) (fun k hk => by cases hk) (by kernel_rfl) (opsWorld_met os _))) ?_
  intro W base args ds gs before hval hW _ _ _ hL _ _
  exact types_contract H enc W base args ds gs before hval hW hL (laid_two hL)

theorem types_said : Rows.OpsTypesSaid :=
  OpenClaim.holds_of_cond 3 Tryd.f3 rfl rfl rfl rfl rfl rfl rfl ⟨rfl, rfl, rfl, rfl, rfl⟩ rfl rfl rfl rfl rfl (by kernel_rfl) Tryd.func3 (by kernel_rfl)
    (of_decide_eq_true (by kernel_rfl)) (by unfold Func.isWrapper; first | (rw [if_pos (by decide +kernel)]; kernel_rfl) | (rw [if_neg (by decide +kernel)]; exact ⟨rfl, rfl⟩))
    (fun os started H enc _ F => by rw [OpenClaim.pre_eq_preRow]; exact types_lifted os started H enc F)

theorem types_plain (f : FuncId) (fn : Func) (hf : Tryd.pinned.checked.prog.funcNamed "hornbeam/hornbeamlaw04.OpsTypes" = some f) (hfn : Tryd.pinned.checked.prog.funcs[f]? = some fn) :
    true = Tryd.pinned.checked.prog.looks [] ∧ ∀ (j : Nat) t, fn.params[j]? = some t → Tryd.pinned.checked.prog.wantsStandIn t = false := by
  obtain rfl : f = 3 := Option.some.inj ((show Tryd.prog.funcNamed "hornbeam/hornbeamlaw04.OpsTypes" = some 3 by kernel_rfl).symm.trans hf) |>.symm
  obtain rfl : fn = Tryd.f3 := (Option.some.inj (Tryd.func3.symm.trans hfn)).symm
  refine ⟨by kernel_rfl, fun j t ht => ?_⟩
  rw [Tryd.params3] at ht
  have hm : t ∈ [23, 9, 3] := by simpa using Array.mem_of_getElem? ht
  have hall : ([23, 9, 3].all fun u => !Tryd.prog.wantsStandIn u) = true := by kernel_rfl
  exact (show Tryd.prog.wantsStandIn t = false by simpa using List.all_eq_true.1 hall t hm)

/-- THE CARD -/
theorem types_card : Rows.OpsTypesCardSaid :=
  Claim7.holds_tied_plain_at .later [] _ _ _ _ types_said (fun _ h => by cases h) (by kernel_rfl) (fun _ h => by cases h) opsTypes_row_tie rfl ⟨rfl, rfl⟩ (by kernel_rfl) rfl types_plain (by kernel_rfl)
#print axioms types_card
end Go.Proofs.YtfdcponamkfcaaaDoor

/- The law OpsApart of layer 4 answers true for every input, and leaves its arguments as they were; its two listed variables hold what the program's text lays. -/
import Derived.Test.YtfdcponamkfcaaaDoorNo
import Derived.Test.YtfdcponamkfcaaaDoorNr
import Derived.Test.YtfdcponamkfcaaaDoorCards
import Derived.Test.YtfdcponamkfcaaaDoorTie
import Derived.Lay
namespace Go.Proofs.YtfdcponamkfcaaaDoor
open Go.ChangeShapes Go.WideShapes Go.ChangeAt Go.RowKit Go.Joins Ho Hb
set_option linter.unusedVariables false

theorem apart_res : Tryd.f5.resultTypes = #[4] := by kernel_rfl
set_option maxRecDepth 1000000 in
theorem apart_contract (H : Type) (enc : TypeId × Value → H) (W : World) (base : Nat) (args : Array Value) (ds gs : List (DataW H)) (before : List MemPlace)
    (hval : ∀ (j : Nat) t v, Tryd.f5.params[j]? = some t → args[j]? = some v → Value.okWide Tryd.prog W .any base t v)
    (hW : DataW.Whole enc Tryd.prog Tryd.f5.params.toList Rows.opsApartSpec.vars false W args.toList ds gs before) (hwt : (DataW.weightsEach Tryd.prog (Tryd.f5.params.toList ++ []) (ds ++ gs)).all (· ≤ reachBytes) = true) (hL : laidMetH Tryd.prog Rows.opsTypesRow.laid W) :
    Calls Tryd.prog 5 args W fun e W' => ∃ v, e = .returned v ∧ Rows.opsApartSpec.post enc Tryd.prog Tryd.f5 false true false false W args v W' := by
  have hW' := hW
  obtain ⟨p, q, hA0, hV, rfl, hfz, hnd⟩ := hW
  have hA : DataW.TrodAll enc Tryd.prog W 0 (fun _ => true) true Tryd.f5.params.toList args.toList ds p := hA0
  rw [Tryd.params5] at hA hval hwt
  obtain ⟨v0, vs0, d0, ds0, p0, q0, hargs, rfl, rfl, h0, r0⟩ := trodAll_cons hA
  obtain ⟨rfl, rfl, rfl⟩ := trodAll_nil r0
  obtain rfl : args = #[v0] := by cases args; simp_all
  obtain ⟨rfl, rfl⟩ := trodVars_none hV
  obtain ⟨A0, n0, c0, ls0, e0, hArg0, hn0⟩ := open_Ops (hval 0 30 v0 rfl rfl) h0
  have hr0 := ops_reach (j := 0) hwt rfl rfl hn0
  subst e0
  have hwalk := Apart_walk (tab_laid hL) (laid_two hL) hArg0 hr0
  refine hwalk.mono fun e W' ⟨he, hb⟩ => ?_
  subst he
  refine ⟨_, rfl, law_end (bt := 4) laidK (fun t ht => ?_) apart_res Tryd.underlying4 rfl hW' rfl hb⟩
  rw [Tryd.params5] at ht
  simp at ht
  subst ht
  exact ⟨by kernel_rfl, of_decide_eq_true (by kernel_rfl)⟩
theorem apart_reads (os : Os) {H : Type} (enc : TypeId × Value → H) : ∃ places, DataW.whole enc Tryd.prog ((opsWorld os).forCall (fun _ _ => 0) ⟨#[], #[.slice none 0 0], []⟩).memory Tryd.f5.params.toList Rows.opsApartSpec.vars false #[Value.slice none 0 0].toList 8 =
    some ([.nil], [], places) :=
  ⟨[], by kernel_rfl⟩
set_option maxRecDepth 100000 in
theorem apart_lifted (os : Os) (started : os.Started) (H : Type) (enc : TypeId × Value → H) (F : Stop.Interp) :
    ReturnsInHanded {} Tryd.checked os 5 .any ((OpenSpec.ofChange Rows.opsApartSpec).preRow enc Tryd.prog Tryd.f5 Rows.opsApartRow.domain false Rows.opsApartRow.laid) (((OpenSpec.ofChange Rows.opsApartSpec).at F).post enc Tryd.prog Tryd.f5 false true false false) := by
  obtain ⟨places, hx⟩ := apart_reads os enc
  refine returnsInHanded_of_row (C := Tryd.checked) (s := OpenSpec.ofChange Rows.opsApartSpec) opsOwn started (by kernel_rfl) Tryd.func5
    (witness_row_atRef (enc := enc) (C := Tryd.checked) false (opsWorld os) #[.slice none 0 0] (World.laidAll_os _ _ _) (by kernel_rfl) (by kernel_rfl) (by kernel_rfl)
      (OpenSpec.preRow_of_cond 8 hx (by kernel_rfl) (fun k hk => by cases hk) (by kernel_rfl) (opsWorld_met os _))) ?_
  intro W base args ds gs before hval hW _ _ hwt hL _ _
  exact apart_contract H enc W base args ds gs before hval hW hwt hL

theorem apart_said : Rows.OpsApartSaid :=
  OpenClaim.holds_of_cond 5 Tryd.f5 rfl rfl rfl rfl rfl rfl rfl ⟨rfl, rfl, rfl, rfl, rfl⟩ rfl rfl rfl rfl rfl (by kernel_rfl) Tryd.func5 (by kernel_rfl)
    (of_decide_eq_true (by kernel_rfl)) (by unfold Func.isWrapper; first | (rw [if_pos (by decide +kernel)]; kernel_rfl) | (rw [if_neg (by decide +kernel)]; exact ⟨rfl, rfl⟩))
    (fun os started H enc _ F => by rw [OpenClaim.pre_eq_preRow]; exact apart_lifted os started H enc F)

theorem apart_plain (f : FuncId) (fn : Func) (hf : Tryd.pinned.checked.prog.funcNamed "hornbeam/hornbeamlaw04.OpsApart" = some f) (hfn : Tryd.pinned.checked.prog.funcs[f]? = some fn) :
    true = Tryd.pinned.checked.prog.looks [] ∧ ∀ (j : Nat) t, fn.params[j]? = some t → Tryd.pinned.checked.prog.wantsStandIn t = false := by
  obtain rfl : f = 5 := Option.some.inj ((show Tryd.prog.funcNamed "hornbeam/hornbeamlaw04.OpsApart" = some 5 by kernel_rfl).symm.trans hf) |>.symm
  obtain rfl : fn = Tryd.f5 := (Option.some.inj (Tryd.func5.symm.trans hfn)).symm
  refine ⟨by kernel_rfl, fun j t ht => ?_⟩
  rw [Tryd.params5] at ht
  have hm : t ∈ [30] := by simpa using Array.mem_of_getElem? ht
  have hall : ([30].all fun u => !Tryd.prog.wantsStandIn u) = true := by kernel_rfl
  exact (show Tryd.prog.wantsStandIn t = false by simpa using List.all_eq_true.1 hall t hm)

/-- THE CARD -/
theorem apart_card : Rows.OpsApartCardSaid :=
  Claim7.holds_tied_plain_at .later [] _ _ _ _ apart_said (fun _ h => by cases h) (by kernel_rfl) (fun _ h => by cases h) opsApart_row_tie rfl ⟨rfl, rfl⟩ (by kernel_rfl) rfl apart_plain (by kernel_rfl)
#print axioms apart_card
end Go.Proofs.YtfdcponamkfcaaaDoor

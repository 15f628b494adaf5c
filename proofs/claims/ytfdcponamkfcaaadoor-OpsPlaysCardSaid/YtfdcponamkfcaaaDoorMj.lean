/- The law OpsPlays of layer 4 answers true for every input, and leaves its arguments as they were; its two listed variables hold what the program's text lays. -/
import Derived.Test.YtfdcponamkfcaaaDoorNo
import Derived.Test.YtfdcponamkfcaaaDoorMi
import Derived.Test.YtfdcponamkfcaaaDoorCards
import Derived.Test.YtfdcponamkfcaaaDoorTie
import Derived.Lay
namespace Go.Proofs.YtfdcponamkfcaaaDoor
open Go.ChangeShapes Go.WideShapes Go.ChangeAt Go.RowKit Go.Joins Ho Hb
set_option linter.unusedVariables false

theorem plays_res : Tryd.f7.resultTypes = #[4] := by kernel_rfl
set_option maxRecDepth 1000000 in
theorem plays_contract (H : Type) (enc : TypeId × Value → H) (W : World) (base : Nat) (args : Array Value) (ds gs : List (DataW H)) (before : List MemPlace)
    (hval : ∀ (j : Nat) t v, Tryd.f7.params[j]? = some t → args[j]? = some v → Value.okWide Tryd.prog W .any base t v)
    (hW : DataW.Whole enc Tryd.prog Tryd.f7.params.toList Rows.opsPlaysSpec.vars false W args.toList ds gs before) (hwt : (DataW.weightsEach Tryd.prog (Tryd.f7.params.toList ++ []) (ds ++ gs)).all (· ≤ reachBytes) = true) (hL : laidMetH Tryd.prog Rows.opsTypesRow.laid W) :
    Calls Tryd.prog 7 args W fun e W' => ∃ v, e = .returned v ∧ Rows.opsPlaysSpec.post enc Tryd.prog Tryd.f7 false true false false W args v W' := by
  have hW' := hW
  obtain ⟨p, q, hA0, hV, rfl, hfz, hnd⟩ := hW
  have hA : DataW.TrodAll enc Tryd.prog W 0 (fun _ => true) true Tryd.f7.params.toList args.toList ds p := hA0
  rw [Tryd.params7] at hA hval hwt
  obtain ⟨v0, vs0, d0, ds0, p0, q0, hargs, rfl, rfl, h0, r0⟩ := trodAll_cons hA
  obtain ⟨rfl, rfl, rfl⟩ := trodAll_nil r0
  obtain rfl : args = #[v0] := by cases args; simp_all
  obtain ⟨rfl, rfl⟩ := trodVars_none hV
  obtain ⟨A0, n0, c0, ls0, e0, hArg0, hn0⟩ := open_Calls (hval 0 46 v0 rfl rfl) h0
  have hr0 := calls_reach (j := 0) hwt rfl rfl hn0
  subst e0
  have hwalk := Plays_walk (tab_laid hL) (laid_two hL) hArg0 hr0
  refine hwalk.mono fun e W' ⟨he, hb⟩ => ?_
  subst he
  refine ⟨_, rfl, law_end (bt := 4) laidK (fun t ht => ?_) plays_res Tryd.underlying4 rfl hW' rfl hb⟩
  rw [Tryd.params7] at ht
  simp at ht
  subst ht
  exact ⟨by kernel_rfl, of_decide_eq_true (by kernel_rfl)⟩
theorem plays_reads (os : Os) {H : Type} (enc : TypeId × Value → H) : ∃ places, DataW.whole enc Tryd.prog ((opsWorld os).forCall (fun _ _ => 0) ⟨#[], #[.slice none 0 0], []⟩).memory Tryd.f7.params.toList Rows.opsPlaysSpec.vars false #[Value.slice none 0 0].toList 8 =
    some ([.nil], [], places) :=
  ⟨[], by kernel_rfl⟩
set_option maxRecDepth 100000 in
theorem plays_lifted (os : Os) (started : os.Started) (H : Type) (enc : TypeId × Value → H) (F : Stop.Interp) :
    ReturnsInHanded {} Tryd.checked os 7 .any ((OpenSpec.ofChange Rows.opsPlaysSpec).preRow enc Tryd.prog Tryd.f7 Rows.opsPlaysRow.domain false Rows.opsPlaysRow.laid) (((OpenSpec.ofChange Rows.opsPlaysSpec).at F).post enc Tryd.prog Tryd.f7 false true false false) := by
  obtain ⟨places, hx⟩ := plays_reads os enc
  refine returnsInHanded_of_row (C := Tryd.checked) (s := OpenSpec.ofChange Rows.opsPlaysSpec) opsOwn started (by kernel_rfl) Tryd.func7
    (witness_row_atRef (enc := enc) (C := Tryd.checked) false (opsWorld os) #[.slice none 0 0] (World.laidAll_os _ _ _) (by kernel_rfl) (by kernel_rfl) (by kernel_rfl)
      (OpenSpec.preRow_of_cond 8 hx (by kernel_rfl) (fun k hk => by cases hk) (by kernel_rfl) (opsWorld_met os _))) ?_
  intro W base args ds gs before hval hW _ _ hwt hL _ _
  exact plays_contract H enc W base args ds gs before hval hW hwt hL

theorem plays_said : Rows.OpsPlaysSaid :=
  OpenClaim.holds_of_cond 7 Tryd.f7 rfl rfl rfl rfl rfl rfl rfl ⟨rfl, rfl, rfl, rfl, rfl⟩ rfl rfl rfl rfl rfl (by kernel_rfl) Tryd.func7 (by kernel_rfl)
    (of_decide_eq_true (by kernel_rfl)) (by unfold Func.isWrapper; first | (rw [if_pos (by decide +kernel)]; kernel_rfl) | (rw [if_neg (by decide +kernel)]; exact ⟨rfl, rfl⟩))
    (fun os started H enc _ F => by rw [OpenClaim.pre_eq_preRow]; exact plays_lifted os started H enc F)

theorem plays_plain (f : FuncId) (fn : Func) (hf : Tryd.pinned.checked.prog.funcNamed "hornbeam/hornbeamlaw04.OpsPlays" = some f) (hfn : Tryd.pinned.checked.prog.funcs[f]? = some fn) :
    true = Tryd.pinned.checked.prog.looks [] ∧ ∀ (j : Nat) t, fn.params[j]? = some t → Tryd.pinned.checked.prog.wantsStandIn t = false := by
  obtain rfl : f = 7 := Option.some.inj ((show Tryd.prog.funcNamed "hornbeam/hornbeamlaw04.OpsPlays" = some 7 by kernel_rfl).symm.trans hf) |>.symm
  obtain rfl : fn = Tryd.f7 := (Option.some.inj (Tryd.func7.symm.trans hfn)).symm
  refine ⟨by kernel_rfl, fun j t ht => ?_⟩
  rw [Tryd.params7] at ht
  have hm : t ∈ [46] := by simpa using Array.mem_of_getElem? ht
  have hall : ([46].all fun u => !Tryd.prog.wantsStandIn u) = true := by kernel_rfl
  exact (show Tryd.prog.wantsStandIn t = false by simpa using List.all_eq_true.1 hall t hm)

/-- THE CARD -/
theorem plays_card : Rows.OpsPlaysCardSaid :=
  Claim7.holds_tied_plain_at .later [] _ _ _ _ plays_said (fun _ h => by cases h) (by kernel_rfl) (fun _ h => by cases h) opsPlays_row_tie rfl ⟨rfl, rfl⟩ (by kernel_rfl) rfl plays_plain (by kernel_rfl)
#print axioms plays_card
end Go.Proofs.YtfdcponamkfcaaaDoor

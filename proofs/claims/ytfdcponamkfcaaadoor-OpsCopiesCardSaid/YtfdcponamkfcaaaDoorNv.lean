/- The law OpsCopies of layer 4 answers true for every input, and leaves its arguments as they were; its two listed variables hold what the program's text lays. -/
import Derived.Test.YtfdcponamkfcaaaDoorNo
import Derived.Test.YtfdcponamkfcaaaDoorNu
import Derived.Test.YtfdcponamkfcaaaDoorCards
import Derived.Test.YtfdcponamkfcaaaDoorTie
import Derived.Lay
namespace Go.Proofs.YtfdcponamkfcaaaDoor
open Go.ChangeShapes Go.WideShapes Go.ChangeAt Go.RowKit Go.Joins Ho Hb
set_option linter.unusedVariables false

theorem copies_res : Tryd.f6.resultTypes = #[4] := by kernel_rfl
set_option maxRecDepth 1000000 in
theorem copies_contract (H : Type) (enc : TypeId × Value → H) (W : World) (base : Nat) (args : Array Value) (ds gs : List (DataW H)) (before : List MemPlace)
    (hval : ∀ (j : Nat) t v, Tryd.f6.params[j]? = some t → args[j]? = some v → Value.okWide Tryd.prog W .any base t v)
    (hW : DataW.Whole enc Tryd.prog Tryd.f6.params.toList Rows.opsCopiesSpec.vars false W args.toList ds gs before) (hwt : (DataW.weightsEach Tryd.prog (Tryd.f6.params.toList ++ []) (ds ++ gs)).all (· ≤ reachBytes) = true) (hL : laidMetH Tryd.prog Rows.opsTypesRow.laid W) :
    Calls Tryd.prog 6 args W fun e W' => ∃ v, e = .returned v ∧ Rows.opsCopiesSpec.post enc Tryd.prog Tryd.f6 false true false false W args v W' := by
  have hW' := hW
  obtain ⟨p, q, hA0, hV, rfl, hfz, hnd⟩ := hW
  have hA : DataW.TrodAll enc Tryd.prog W 0 (fun _ => true) true Tryd.f6.params.toList args.toList ds p := hA0
  rw [Tryd.params6] at hA hval hwt
  obtain ⟨v0, vs0, d0, ds0, p0, q0, hargs, rfl, rfl, h0, r0⟩ := trodAll_cons hA
  obtain ⟨v1, vs1, d1, ds1, p1, q1, rfl, rfl, rfl, h1, r1⟩ := trodAll_cons r0
  obtain ⟨rfl, rfl, rfl⟩ := trodAll_nil r1
  obtain rfl : args = #[v0, v1] := by cases args; simp_all
  obtain ⟨rfl, rfl⟩ := trodVars_none hV
  obtain ⟨A0, n0, c0, ls0, e0, hArg0, hn0⟩ := open_Ops (hval 0 30 v0 rfl rfl) h0
  obtain ⟨A1, n1, c1, ls1, e1, hArg1, hn1⟩ := open_Ops (hval 1 30 v1 rfl rfl) h1
  have hr0 := ops_reach (j := 0) hwt rfl rfl hn0
  have hr1 := ops_reach (j := 1) hwt rfl rfl hn1
  subst e0
  subst e1
  have hwalk := Copies_walk (tab_laid hL) (laid_two hL) hArg0 hr0 hArg1 hr1
  refine hwalk.mono fun e W' ⟨he, hb⟩ => ?_
  subst he
  refine ⟨_, rfl, law_end (bt := 4) laidK (fun t ht => ?_) copies_res Tryd.underlying4 rfl hW' rfl hb⟩
  rw [Tryd.params6] at ht
  simp at ht
  subst ht
  exact ⟨by kernel_rfl, of_decide_eq_true (by kernel_rfl)⟩
theorem copies_reads (os : Os) {H : Type} (enc : TypeId × Value → H) : ∃ places, DataW.whole enc Tryd.prog ((opsWorld os).forCall (fun _ _ => 0) ⟨#[], #[.slice none 0 0, .slice none 0 0], []⟩).memory Tryd.f6.params.toList Rows.opsCopiesSpec.vars false #[Value.slice none 0 0, .slice none 0 0].toList 8 =
    some ([.nil, .nil], [], places) :=
  ⟨[], by kernel_rfl⟩
set_option maxRecDepth 100000 in
theorem copies_lifted (os : Os) (started : os.Started) (H : Type) (enc : TypeId × Value → H) (F : Stop.Interp) :
    ReturnsInHanded {} Tryd.checked os 6 .any ((OpenSpec.ofChange Rows.opsCopiesSpec).preRow enc Tryd.prog Tryd.f6 Rows.opsCopiesRow.domain false Rows.opsCopiesRow.laid) (((OpenSpec.ofChange Rows.opsCopiesSpec).at F).post enc Tryd.prog Tryd.f6 false true false false) := by
  obtain ⟨places, hx⟩ := copies_reads os enc
  refine returnsInHanded_of_row (C := Tryd.checked) (s := OpenSpec.ofChange Rows.opsCopiesSpec) opsOwn started (by kernel_rfl) Tryd.func6
    (witness_row_atRef (enc := enc) (C := Tryd.checked) false (opsWorld os) #[.slice none 0 0, .slice none 0 0] (World.laidAll_os _ _ _) (by kernel_rfl) (by kernel_rfl) (by kernel_rfl)
      (OpenSpec.preRow_of_cond 8 hx (by kernel_rfl) (fun k hk => by cases hk) (by kernel_rfl) (opsWorld_met os _))) ?_
  intro W base args ds gs before hval hW _ _ hwt hL _ _
  exact copies_contract H enc W base args ds gs before hval hW hwt hL

theorem copies_said : Rows.OpsCopiesSaid :=
  OpenClaim.holds_of_cond 6 Tryd.f6 rfl rfl rfl rfl rfl rfl rfl ⟨rfl, rfl, rfl, rfl, rfl⟩ rfl rfl rfl rfl rfl (by kernel_rfl) Tryd.func6 (by kernel_rfl)
    (of_decide_eq_true (by kernel_rfl)) (by unfold Func.isWrapper; first | (rw [if_pos (by decide +kernel)]; kernel_rfl) | (rw [if_neg (by decide +kernel)]; exact ⟨rfl, rfl⟩))
    (fun os started H enc _ F => by rw [OpenClaim.pre_eq_preRow]; exact copies_lifted os started H enc F)

theorem copies_plain (f : FuncId) (fn : Func) (hf : Tryd.pinned.checked.prog.funcNamed "hornbeam/hornbeamlaw04.OpsCopies" = some f) (hfn : Tryd.pinned.checked.prog.funcs[f]? = some fn) :
    true = Tryd.pinned.checked.prog.looks [] ∧ ∀ (j : Nat) t, fn.params[j]? = some t → Tryd.pinned.checked.prog.wantsStandIn t = false := by
  obtain rfl : f = 6 := Option.some.inj ((show Tryd.prog.funcNamed "hornbeam/hornbeamlaw04.OpsCopies" = some 6 by kernel_rfl).symm.trans hf) |>.symm
  obtain rfl : fn = Tryd.f6 := (Option.some.inj (Tryd.func6.symm.trans hfn)).symm
  refine ⟨by kernel_rfl, fun j t ht => ?_⟩
  rw [Tryd.params6] at ht
  have hm : t ∈ [30, 30] := by simpa using Array.mem_of_getElem? ht
  have hall : ([30, 30].all fun u => !Tryd.prog.wantsStandIn u) = true := by kernel_rfl
  exact (show Tryd.prog.wantsStandIn t = false by simpa using List.all_eq_true.1 hall t hm)

/-- THE CARD -/
theorem copies_card : Rows.OpsCopiesCardSaid :=
  Claim7.holds_tied_plain_at .later [] _ _ _ _ copies_said (fun _ h => by cases h) (by kernel_rfl) (fun _ h => by cases h) opsCopies_row_tie rfl ⟨rfl, rfl⟩ (by kernel_rfl) rfl copies_plain (by kernel_rfl)
#print axioms copies_card
end Go.Proofs.YtfdcponamkfcaaaDoor

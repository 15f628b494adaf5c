/- The law OpsAdds of layer 4 answers true for every input, and leaves its arguments as they were; its two listed variables hold what the program's text lays. -/
import Derived.Test.YtfdcponamkfcaaaDoorNo
import Derived.Test.YtfdcponamkfcaaaDoorCards
import Derived.Test.YtfdcponamkfcaaaDoorTie
import Derived.Lay
namespace Go.Proofs.YtfdcponamkfcaaaDoor
open Go.ChangeShapes Go.WideShapes Go.ChangeAt Go.RowKit Go.Joins Ho Hb
set_option linter.unusedVariables false

theorem adds_res : Tryd.f4.resultTypes = #[4] := by kernel_rfl
theorem ws_global : Tryd.prog.globalNamed "unicode.White_Space" = some 1 := by kernel_rfl
set_option maxRecDepth 1000000 in
/-- the listed variables' blocks are there -/
theorem laid_two {W : World} (h : laidMetH Tryd.prog Rows.opsTypesRow.laid W) : 2 ≤ W.heap.size := by
  have hr := Lib.laidMet.reads h (n := "unicode.White_Space") (d := Rows.laid_unicode_White_Space) (List.Mem.head _)
  obtain ⟨g', t', cs, fuel, p, hg', ht', hvar, hd⟩ := hr
  unfold World.var? at hvar
  rw [ws_global] at hvar
  refine Decidable.byContradiction fun hn => ?_
  have : W.heap[1]? = none := Array.getElem?_eq_none (by omega)
  simp only [Option.bind_some, this] at hvar
  cases hvar
theorem opsOwn : ownKnob Tryd.prog.godebug = none := by kernel_rfl
noncomputable def opsWorld (os : Os) : World := World.laidAll Tryd.prog os Rows.opsTypesRow.laid
theorem opsWorld_met (os : Os) (args : Array Value) : laidMetH Tryd.prog Rows.opsTypesRow.laid ((opsWorld os).forCall (fun _ _ => 0) ⟨#[], args, []⟩).memory := by
  rw [MakeChecks.laidMetH_plain _ _ _ (by kernel_rfl)]
  exact laidMet_laidAll _ (by kernel_rfl) (by kernel_rfl)
/-- how many operators an argument may have -/
theorem ops_reach {H : Type} {d : DataW H} {l : List (DataW H)} {ts : List TypeId} {j n : Nat} (hw : (DataW.weightsEach Tryd.prog ts l).all (· ≤ reachBytes) = true) (ht : ts[j]? = some 30) (hd : l[j]? = some d) (h : n = 0 ∨ ∃ es sp, d = .slice es sp ∧ es.length = n) : n ≤ 4398046511000 := by
  rcases h with rfl | ⟨es, sp, rfl, rfl⟩
  · omega
  · have h2 := sized_slice hw ht hd Tryd.underlying30
    rw [bytesOp] at h2
    unfold reachBytes at h2
    omega
set_option maxRecDepth 1000000 in
theorem adds_contract (H : Type) (enc : TypeId × Value → H) (W : World) (base : Nat) (args : Array Value) (ds gs : List (DataW H)) (before : List MemPlace)
    (hval : ∀ (j : Nat) t v, Tryd.f4.params[j]? = some t → args[j]? = some v → Value.okWide Tryd.prog W .any base t v)
    (hW : DataW.Whole enc Tryd.prog Tryd.f4.params.toList Rows.opsAddsSpec.vars false W args.toList ds gs before) (hwt : (DataW.weightsEach Tryd.prog (Tryd.f4.params.toList ++ []) (ds ++ gs)).all (· ≤ reachBytes) = true) (hL : laidMetH Tryd.prog Rows.opsTypesRow.laid W) :
    Calls Tryd.prog 4 args W fun e W' => ∃ v, e = .returned v ∧ Rows.opsAddsSpec.post enc Tryd.prog Tryd.f4 false true false false W args v W' := by
  have hW' := hW
  obtain ⟨p, q, hA0, hV, rfl, hfz, hnd⟩ := hW
  have hA : DataW.TrodAll enc Tryd.prog W 0 (fun _ => true) true Tryd.f4.params.toList args.toList ds p := hA0
  rw [Tryd.params4] at hA hval hwt
  obtain ⟨v0, vs0, d0, ds0, p0, q0, hargs, rfl, rfl, h0, r0⟩ := trodAll_cons hA
  obtain ⟨v1, vs1, d1, ds1, p1, q1, rfl, rfl, rfl, h1, r1⟩ := trodAll_cons r0
  obtain ⟨rfl, rfl, rfl⟩ := trodAll_nil r1
  obtain rfl : args = #[v0, v1] := by cases args; simp_all
  obtain ⟨rfl, rfl⟩ := trodVars_none hV
  obtain ⟨A, n, c, ls, e0, hArg, hn⟩ := open_Ops (hval 0 30 v0 rfl rfl) h0
  obtain ⟨s, t, q, e1, hs⟩ := open_Op_sized (hval 1 23 v1 rfl rfl) h1
  have hreach := ops_reach (j := 0) hwt rfl rfl hn
  subst e0
  subst e1
  have hwalk := Adds_walk (tab_laid hL) (laid_two hL) hArg hreach ⟨s.data.toList, t, q⟩ (by simpa using hs)
  refine hwalk.mono fun e W' ⟨he, hb⟩ => ?_
  subst he
  refine ⟨_, rfl, law_end (bt := 4) laidK (fun t ht => ?_) adds_res Tryd.underlying4 rfl hW' rfl hb⟩
  rw [Tryd.params4] at ht
  simp at ht
  rcases ht with rfl | rfl
  all_goals exact ⟨by kernel_rfl, of_decide_eq_true (by kernel_rfl)⟩
theorem adds_reads (os : Os) {H : Type} (enc : TypeId × Value → H) : ∃ places, DataW.whole enc Tryd.prog ((opsWorld os).forCall (fun _ _ => 0) ⟨#[], #[.slice none 0 0, .agg #[.string ⟨#[]⟩, .int .i64 0, .int .i64 0]], []⟩).memory Tryd.f4.params.toList Rows.opsAddsSpec.vars false #[Value.slice none 0 0, .agg #[.string ⟨#[]⟩, .int .i64 0, .int .i64 0]].toList 8 =
    some ([.nil, .agg [.lit (.string []), .lit (.int .i64 0), .lit (.int .i64 0)]], [], places) :=
  ⟨[], by kernel_rfl⟩
set_option maxRecDepth 100000 in
theorem adds_lifted (os : Os) (started : os.Started) (H : Type) (enc : TypeId × Value → H) (F : Stop.Interp) :
    ReturnsInHanded {} Tryd.checked os 4 .any ((OpenSpec.ofChange Rows.opsAddsSpec).preRow enc Tryd.prog Tryd.f4 Rows.opsAddsRow.domain false Rows.opsAddsRow.laid) (((OpenSpec.ofChange Rows.opsAddsSpec).at F).post enc Tryd.prog Tryd.f4 false true false false) := by
  obtain ⟨places, hx⟩ := adds_reads os enc
  refine returnsInHanded_of_row (C := Tryd.checked) (s := OpenSpec.ofChange Rows.opsAddsSpec) opsOwn started (by kernel_rfl) Tryd.func4
    (witness_row_atRef (enc := enc) (C := Tryd.checked) false (opsWorld os) #[.slice none 0 0, .agg #[.string ⟨#[]⟩, .int .i64 0, .int .i64 0]] (World.laidAll_os _ _ _) (by kernel_rfl) (by kernel_rfl) (by kernel_rfl)
      (OpenSpec.preRow_of_cond 8 hx (by kernel_rfl) (fun k hk => by cases hk) (by kernel_rfl) (opsWorld_met os _))) ?_
  intro W base args ds gs before hval hW _ _ hwt hL _ _
  exact adds_contract H enc W base args ds gs before hval hW hwt hL

theorem adds_said : Rows.OpsAddsSaid :=
  OpenClaim.holds_of_cond 4 Tryd.f4 rfl rfl rfl rfl rfl rfl rfl ⟨rfl, rfl, rfl, rfl, rfl⟩ rfl rfl rfl rfl rfl (by kernel_rfl) Tryd.func4 (by kernel_rfl)
    (of_decide_eq_true (by kernel_rfl)) (by unfold Func.isWrapper; first | (rw [if_pos (by decide +kernel)]; kernel_rfl) | (rw [if_neg (by decide +kernel)]; exact ⟨rfl, rfl⟩))
    (fun os started H enc _ F => by rw [OpenClaim.pre_eq_preRow]; exact adds_lifted os started H enc F)

theorem adds_plain (f : FuncId) (fn : Func) (hf : Tryd.pinned.checked.prog.funcNamed "hornbeam/hornbeamlaw04.OpsAdds" = some f) (hfn : Tryd.pinned.checked.prog.funcs[f]? = some fn) :
    true = Tryd.pinned.checked.prog.looks [] ∧ ∀ (j : Nat) t, fn.params[j]? = some t → Tryd.pinned.checked.prog.wantsStandIn t = false := by
  obtain rfl : f = 4 := Option.some.inj ((show Tryd.prog.funcNamed "hornbeam/hornbeamlaw04.OpsAdds" = some 4 by kernel_rfl).symm.trans hf) |>.symm
  obtain rfl : fn = Tryd.f4 := (Option.some.inj (Tryd.func4.symm.trans hfn)).symm
  refine ⟨by kernel_rfl, fun j t ht => ?_⟩
  rw [Tryd.params4] at ht
  have hm : t ∈ [30, 23] := by simpa using Array.mem_of_getElem? ht
  have hall : ([30, 23].all fun u => !Tryd.prog.wantsStandIn u) = true := by kernel_rfl
  exact (show Tryd.prog.wantsStandIn t = false by simpa using List.all_eq_true.1 hall t hm)

/-- THE CARD -/
theorem adds_card : Rows.OpsAddsCardSaid :=
  Claim7.holds_tied_plain_at .later [] _ _ _ _ adds_said (fun _ h => by cases h) (by kernel_rfl) (fun _ h => by cases h) opsAdds_row_tie rfl ⟨rfl, rfl⟩ (by kernel_rfl) rfl adds_plain (by kernel_rfl)
#print axioms adds_card
end Go.Proofs.YtfdcponamkfcaaaDoor

/- The law OpsTypes of layer 4 answers true for every input, and leaves its arguments as they were; its two listed variables hold what the program's text lays. -/
import Derived.Test.YtfdcponamkfcaaaDoorOv
import Derived.Test.YtfdcponamkfcaaaDoorCards
import Derived.Test.YtfdcponamkfcaaaDoorTie
namespace Go.Proofs.YtfdcponamkfcaaaDoor
open Go.ChangeShapes Go.WideShapes Go.ChangeAt Go.RowKit Go.Joins Ho

theorem types_res : Tryd.f3.resultTypes = #[4] := by kernel_rfl
set_option maxRecDepth 1000000 in
/-- what the walk gives, for every argument and every world that holds the table -/
theorem types_contract (H : Type) (enc : TypeId × Value → H) (W : World) (base : Nat) (args : Array Value) (ds gs : List (DataW H)) (before : List MemPlace)
    (hval : ∀ (j : Nat) t v, Tryd.f3.params[j]? = some t → args[j]? = some v → Value.okWide Tryd.prog W .any base t v)
    (hW : DataW.Whole enc Tryd.prog Tryd.f3.params.toList Rows.opsTypesSpec.vars false W args.toList ds gs before) (hL : laidMetH Tryd.prog Rows.opsTypesRow.laid W) (h2 : 2 ≤ W.heap.size) :
    Calls Tryd.prog 3 args W fun e W' => ∃ v, e = .returned v ∧ Rows.opsTypesSpec.post enc Tryd.prog Tryd.f3 false true false false W args v W' := by
  have hW' := hW
  obtain ⟨p, q, hA0, hV, rfl, hfz, hnd⟩ := hW
  have hA : DataW.TrodAll enc Tryd.prog W 0 (fun _ => true) true Tryd.f3.params.toList args.toList ds p := hA0
  rw [Tryd.params3] at hA hval
  obtain ⟨v0, vs0, d0, ds0, p0, q0, hargs, rfl, rfl, h0, r0⟩ := trodAll_cons hA
  obtain ⟨v1, vs1, d1, ds1, p1, q1, rfl, rfl, rfl, h1, r1⟩ := trodAll_cons r0
  obtain ⟨v2, vs2, d2, ds2, p2, q2, rfl, rfl, rfl, h2', r2⟩ := trodAll_cons r1
  obtain ⟨rfl, rfl, rfl⟩ := trodAll_nil r2
  obtain rfl : args = #[v0, v1, v2] := by cases args; simp_all
  obtain ⟨rfl, rfl⟩ := trodVars_none hV
  obtain ⟨s, t, q, e0⟩ := open_Op (hval 0 23 v0 rfl rfl) h0
  obtain ⟨word, e1, ed1, rfl, _⟩ := Go.ChangeMaps.open_string Tryd.underlying9 (hval 1 9 v1 rfl rfl) h1
  obtain ⟨kind, rfl, rfl, rfl, _⟩ := open_int Tryd.underlying3 (hval 2 3 v2 rfl rfl) h2'
  subst e0
  subst e1
  refine (Types_walk s t q word kind (tab_laid hL) h2).mono fun e W' ⟨he, hb⟩ => ?_
  subst he
  refine ⟨_, rfl, law_end (bt := 4) laidK (fun t ht => ?_) types_res Tryd.underlying4 rfl hW' rfl hb⟩
  rw [Tryd.params3] at ht
  simp at ht
  rcases ht with rfl | rfl | rfl
  all_goals exact ⟨by kernel_rfl, of_decide_eq_true (by kernel_rfl)⟩
end Go.Proofs.YtfdcponamkfcaaaDoor

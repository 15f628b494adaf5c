/- The law BigintFloats of layer 1 answers true for every input of a bulk of at most 1048576, and leaves its arguments as they were. -/
import Derived.Test.YtggdmhkdmkldoaaGx
import Derived.ChangeMaps5
namespace Go.Proofs.Ytggdmhkdmkldoaa
open Go.ChangeShapes Go.WideShapes Go.ChangeAt Go.RowKit Go.Joins Hb

theorem floats_res : Try.f14.resultTypes = #[4] := by kernel_rfl
set_option maxRecDepth 100000 in
theorem floats_lifted (os : Os) (started : os.Started) (H : Type) (enc : TypeId × Value → H) (F : Stop.Interp) :
    ReturnsInHanded {} Try.checked os 14 .any ((Rows.OpenSpec.upto Rows.bigintFloatsSpec).pre6 enc Try.prog Try.f14 Rows.bigintFloatsUptoRow.domain false) (((Rows.OpenSpec.upto Rows.bigintFloatsSpec).at F).post enc Try.prog Try.f14 false true false false) := by
  refine returnsInHanded_of_cond (C := Try.checked) (s := Rows.OpenSpec.upto Rows.bigintFloatsSpec) (k := Rows.uptoSmall) rfl ownK started (by kernel_rfl) Try.func14
    (OpenSpec.witness (enc := enc) (C := Try.checked) (s := Rows.OpenSpec.upto Rows.bigintFloatsSpec) (k := Rows.uptoSmall) rfl false ⟨#[], #[.agg #[.bool false, .slice none 0 0], .int .u64 0], []⟩ 8 (by kernel_rfl) (by kernel_rfl) (by kernel_rfl)
      (x := ([.agg [.lit (.bool false), .nil], .lit (.int .u64 0)], [], [])) (by kernel_rfl) rfl (by kernel_rfl)) ?_
  intro W base args ds gs before hval0 hW _ hk _
  have hval : ∀ (j : Nat) t v, Try.f14.params[j]? = some t → args[j]? = some v → Value.okWide Try.prog W .any base t v := hval0
  have hW' := hW
  obtain ⟨p, q, hAz, hV, rfl, _, _⟩ := hW
  have hA : DataW.TrodAll enc Try.prog W 0 (fun _ => true) true Try.f14.params.toList args.toList ds p := hAz
  rw [Try.params14] at hA hval
  obtain ⟨v0, vs0, d0, ds0, p0, q0, hargs, rfl, rfl, h0, r0⟩ := trodAll_cons hA
  obtain ⟨v1, vs1, d1, ds1, p1, q1, rfl, rfl, rfl, h1, r1⟩ := trodAll_cons r0
  obtain ⟨rfl, rfl, rfl⟩ := trodAll_nil r1
  obtain rfl : args = #[v0, v1] := by cases args; simp_all
  obtain ⟨rfl, rfl⟩ := trodVars_none hV
  obtain ⟨neg0, A0, n0, c0, l0, e0, hs0, hA0⟩ := open_Int (hval 0 24 v0 rfl rfl) h0
  have hb0 := bulk_Int (hval 0 24 v0 rfl rfl) h0 e0
  obtain ⟨k1, rfl, rfl, rfl, w1⟩ := open_int Try.underlying71 (hval 1 71 v1 rfl rfl) h1
  have hk1 : 0 ≤ k1 ∧ k1 ≤ 18446744073709551615 := by simpa [Lit.wf, IntKind.min, IntKind.max, IntKind.signed, IntKind.bits] using w1
  obtain ⟨u1, rfl⟩ := Int.eq_ofNat_of_zero_le hk1.1
  subst e0
  refine (Floats_walk neg0 hs0 hA0 (f := u1) (hf := by omega) (Nat.le_trans hb0 (bulk_in hk (by simp)))).mono fun e W' ⟨he, hb⟩ => ?_
  subst he
  refine ⟨_, rfl, law_end (bt := 4) laidK (fun t ht => ?_) floats_res Try.underlying4 rfl hW' rfl hb⟩
  rw [Try.params14] at ht
  simp at ht
  rcases ht with rfl | rfl
  all_goals exact ⟨by kernel_rfl, of_decide_eq_true (by kernel_rfl)⟩

theorem floats_holds : Rows.BigintFloatsUptoSaid :=
  OpenClaim.holds_of_cond 14 Try.f14 rfl rfl rfl rfl rfl rfl rfl ⟨rfl, rfl, rfl, rfl, rfl⟩ rfl rfl rfl rfl rfl (by kernel_rfl) Try.func14 (by kernel_rfl)
    (of_decide_eq_true (by kernel_rfl)) (by unfold Func.isWrapper; first | (rw [if_pos (by decide +kernel)]; kernel_rfl) | (rw [if_neg (by decide +kernel)]; exact ⟨rfl, rfl⟩))
    (fun os started H enc _ F => floats_lifted os started H enc F)

#print axioms floats_holds
end Go.Proofs.Ytggdmhkdmkldoaa

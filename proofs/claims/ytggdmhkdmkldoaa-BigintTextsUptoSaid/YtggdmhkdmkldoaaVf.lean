/- The law BigintTexts of layer 1 answers true for every input of a bulk of at most 1048576, and leaves its arguments as they were. -/
import Derived.Test.YtggdmhkdmkldoaaVe
import Derived.ChangeMaps5
namespace Go.Proofs.Ytggdmhkdmkldoaa
open Go.ChangeShapes Go.WideShapes Go.ChangeAt Go.RowKit Go.Joins Hb

theorem texts_res : Try.f4.resultTypes = #[4] := by kernel_rfl
set_option maxRecDepth 100000 in
theorem texts_lifted (os : Os) (started : os.Started) (H : Type) (enc : TypeId × Value → H) (F : Stop.Interp) :
    ReturnsInHanded {} Try.checked os 4 .any ((Rows.OpenSpec.upto Rows.bigintTextsSpec).pre6 enc Try.prog Try.f4 Rows.bigintTextsUptoRow.domain false) (((Rows.OpenSpec.upto Rows.bigintTextsSpec).at F).post enc Try.prog Try.f4 false true false false) := by
  refine returnsInHanded_of_cond (C := Try.checked) (s := Rows.OpenSpec.upto Rows.bigintTextsSpec) (k := Rows.uptoSmall) rfl ownK started (by kernel_rfl) Try.func4
    (OpenSpec.witness (enc := enc) (C := Try.checked) (s := Rows.OpenSpec.upto Rows.bigintTextsSpec) (k := Rows.uptoSmall) rfl false ⟨#[], #[.string ⟨#[]⟩, .agg #[.bool false, .slice none 0 0], .int .i64 0], []⟩ 8 (by kernel_rfl) (by kernel_rfl) (by kernel_rfl)
      (x := ([.lit (.string []), .agg [.lit (.bool false), .nil], .lit (.int .i64 0)], [], [])) (by kernel_rfl) rfl (by kernel_rfl)) ?_
  intro W base args ds gs before hval0 hW _ hk _
  have hval : ∀ (j : Nat) t v, Try.f4.params[j]? = some t → args[j]? = some v → Value.okWide Try.prog W .any base t v := hval0
  have hW' := hW
  obtain ⟨p, q, hAz, hV, rfl, _, _⟩ := hW
  have hA : DataW.TrodAll enc Try.prog W 0 (fun _ => true) true Try.f4.params.toList args.toList ds p := hAz
  rw [Try.params4] at hA hval
  obtain ⟨v0, vs0, d0, ds0, p0, q0, hargs, rfl, rfl, h0, r0⟩ := trodAll_cons hA
  obtain ⟨v1, vs1, d1, ds1, p1, q1, rfl, rfl, rfl, h1, r1⟩ := trodAll_cons r0
  obtain ⟨v2, vs2, d2, ds2, p2, q2, rfl, rfl, rfl, h2, r2⟩ := trodAll_cons r1
  obtain ⟨rfl, rfl, rfl⟩ := trodAll_nil r2
  obtain rfl : args = #[v0, v1, v2] := by cases args; simp_all
  obtain ⟨rfl, rfl⟩ := trodVars_none hV
  obtain ⟨s0, e0, ed0, rfl, _⟩ := Go.ChangeMaps.open_string Try.underlying9 (hval 0 9 v0 rfl rfl) h0
  have hb0 : s0.size ≤ 1048576 := by
    have h9 := bulk_in hk (d := d0) (by simp)
    rw [ed0] at h9
    simp only [Rows.uptoBulk] at h9
    have h8 : s0.data.toList.length = s0.size := by simp
    omega
  obtain ⟨neg1, A1, n1, c1, l1, e1, hs1, hA1⟩ := open_Int (hval 1 24 v1 rfl rfl) h1
  have hb1 := bulk_Int (hval 1 24 v1 rfl rfl) h1 e1
  obtain ⟨k2, rfl, rfl, rfl, w2⟩ := open_int Try.underlying3 (hval 2 3 v2 rfl rfl) h2
  have hk2 : -9223372036854775808 ≤ k2 ∧ k2 ≤ 9223372036854775807 := by simpa [Lit.wf, IntKind.min, IntKind.max, IntKind.signed, IntKind.bits] using w2
  subst e0
  subst e1
  refine (Texts_walk s0 hb0 neg1 hs1 hA1 k2 hk2 (Nat.le_trans hb1 (bulk_in hk (by simp)))).mono fun e W' ⟨he, hb⟩ => ?_
  subst he
  refine ⟨_, rfl, law_end (bt := 4) laidK (fun t ht => ?_) texts_res Try.underlying4 rfl hW' rfl hb⟩
  rw [Try.params4] at ht
  simp at ht
  rcases ht with rfl | rfl | rfl
  all_goals exact ⟨by kernel_rfl, of_decide_eq_true (by kernel_rfl)⟩

theorem texts_holds : Rows.BigintTextsUptoSaid :=
  OpenClaim.holds_of_cond 4 Try.f4 rfl rfl rfl rfl rfl rfl rfl ⟨rfl, rfl, rfl, rfl, rfl⟩ rfl rfl rfl rfl rfl (by kernel_rfl) Try.func4 (by kernel_rfl)
    (of_decide_eq_true (by kernel_rfl)) (by unfold Func.isWrapper; first | (rw [if_pos (by decide +kernel)]; kernel_rfl) | (rw [if_neg (by decide +kernel)]; exact ⟨rfl, rfl⟩))
    (fun os started H enc _ F => texts_lifted os started H enc F)

#print axioms texts_holds
end Go.Proofs.Ytggdmhkdmkldoaa

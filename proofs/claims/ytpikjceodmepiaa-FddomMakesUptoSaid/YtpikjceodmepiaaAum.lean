/- The law FddomMakes of layer 9 answers true for every input of a bulk of at most 1048576, and leaves its arguments as they were. -/
import Derived.Test.YtpikjceodmepiaaArm
import Derived.Test.YtpikjceodmepiaaAstm
import Derived.Test.YtpikjceodmepiaaZem
import Derived.ChangeMaps5
set_option linter.unusedVariables false
set_option linter.unusedSimpArgs false
set_option linter.unusedSimpArgs false
namespace Go.Proofs.Ytpikjceodmepiaa
open Go.ChangeShapes Go.WideShapes Go.ChangeAt Go.RowKit Go.Joins Hb Hf
set_option linter.unusedVariables false
theorem makes_res : Try.f3.resultTypes = #[4] := by kernel_rfl
set_option maxRecDepth 100000 in
theorem makes_lifted (os : Os) (started : os.Started) (H : Type) (enc : TypeId × Value → H) (F : Stop.Interp) :
    ReturnsInHanded {} Try.checked os 3 .any ((Rows.OpenSpec.upto Rows.fddomMakesSpec).pre6 enc Try.prog Try.f3 Rows.fddomMakesUptoRow.domain false) (((Rows.OpenSpec.upto Rows.fddomMakesSpec).at F).post enc Try.prog Try.f3 false true false false) := by
  refine returnsInHanded_of_cond (C := Try.checked) (s := Rows.OpenSpec.upto Rows.fddomMakesSpec) (k := Rows.uptoSmall) rfl ownK started (by kernel_rfl) Try.func3
    (OpenSpec.witness (enc := enc) (C := Try.checked) (s := Rows.OpenSpec.upto Rows.fddomMakesSpec) (k := Rows.uptoSmall) rfl false ⟨#[], #[.slice none 0 0, .agg #[.bool false, .slice none 0 0], .agg #[.bool false, .slice none 0 0]], []⟩ 8 (by kernel_rfl) (by kernel_rfl) (by kernel_rfl)
      (x := ([.nil, .agg [.lit (.bool false), .nil], .agg [.lit (.bool false), .nil]], [], [])) (by kernel_rfl) rfl (by kernel_rfl)) ?_
  intro W base args ds gs before hval0 hW _ hk _
  have hval : ∀ (j : Nat) t v, Try.f3.params[j]? = some t → args[j]? = some v → Value.okWide Try.prog W .any base t v := hval0
  have hW' := hW
  obtain ⟨p, q, hAz, hV, rfl, _, _⟩ := hW
  have hA : DataW.TrodAll enc Try.prog W 0 (fun _ => true) true Try.f3.params.toList args.toList ds p := hAz
  rw [Try.params3] at hA hval
  obtain ⟨v0, vs0, d0, ds0, p0, q0, hargs, rfl, rfl, h0, r0⟩ := trodAll_cons hA
  obtain ⟨v1, vs1, d1, ds1, p1, q1, rfl, rfl, rfl, h1, r1⟩ := trodAll_cons r0
  obtain ⟨v2, vs2, d2, ds2, p2, q2, rfl, rfl, rfl, h2, r2⟩ := trodAll_cons r1
  obtain ⟨rfl, rfl, rfl⟩ := trodAll_nil r2
  obtain rfl : args = #[v0, v1, v2] := by cases args; simp_all
  obtain ⟨rfl, rfl⟩ := trodVars_none hV
  obtain ⟨A0, n0, c0, s0, rfl, hs0, z0, b0, k0⟩ := open_Ranges_b (hval 0 22 v0 rfl rfl) h0
  obtain ⟨neg1, A1, n1, c1, l1, e1, hs1, hA1⟩ := open_Int (hval 1 25 v1 rfl rfl) h1
  have hb1 := bulk_Int (hval 1 25 v1 rfl rfl) h1 e1
  obtain ⟨neg2, A2, n2, c2, l2, e2, hs2, hA2⟩ := open_Int (hval 2 25 v2 rfl rfl) h2
  have hb2 := bulk_Int (hval 2 25 v2 rfl rfl) h2 e2
  have m0 := bulk_in hk (d := d0) (by simp)
  have m1 := bulk_in hk (d := d1) (by simp)
  have m2 := bulk_in hk (d := d2) (by simp)
  subst e1
  subst e2
  refine (makes_walk hs0 z0 (fun p hp => ⟨Nat.le_trans (k0 p hp).1 m0, Nat.le_trans (k0 p hp).2 m0⟩) (Nat.le_trans b0 m0) (LimP.of_sl hs1) (LimP.of_sl hs2) (Nat.le_trans hb1 m1) (Nat.le_trans hb2 m2)).mono fun e W' ⟨he, hb⟩ => ?_
  subst he
  refine ⟨_, rfl, law_end (bt := 4) laidK (fun t ht => ?_) makes_res Try.underlying4 rfl hW' rfl hb⟩
  rw [Try.params3] at ht
  simp at ht
  rcases ht with rfl | rfl
  all_goals exact ⟨by kernel_rfl, of_decide_eq_true (by kernel_rfl)⟩

theorem makes_holds : Rows.FddomMakesUptoSaid :=
  OpenClaim.holds_of_cond 3 Try.f3 rfl rfl rfl rfl rfl rfl rfl ⟨rfl, rfl, rfl, rfl, rfl⟩ rfl rfl rfl rfl rfl (by kernel_rfl) Try.func3 (by kernel_rfl)
    (of_decide_eq_true (by kernel_rfl)) (by unfold Func.isWrapper; first | (rw [if_pos (by decide +kernel)]; kernel_rfl) | (rw [if_neg (by decide +kernel)]; exact ⟨rfl, rfl⟩))
    (fun os started H enc _ F => makes_lifted os started H enc F)
end Go.Proofs.Ytpikjceodmepiaa


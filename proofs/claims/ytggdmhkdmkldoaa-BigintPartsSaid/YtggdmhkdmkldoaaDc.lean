import Derived.Test.YtggdmhkdmkldoaaDca
import Derived.Test.YtggdmhkdmkldoaaDcb
import Derived.Test.YtggdmhkdmkldoaaDcc
import Derived.Test.YtggdmhkdmkldoaaDcd
namespace Go.Proofs.Ytggdmhkdmkldoaa
open Go.RowKit Hb

theorem Parts_walk (na nb : Bool) {Aa Ab : Option Addr} {la lb : List Nat} {n_a ca n_b cb : Nat} {w : World} (hsa : SlU w w.heap.size Aa n_a ca la) (hsb : SlU w w.heap.size Ab n_b cb lb) (hAa : Aa = none → ca = 0) (hAb : Ab = none → cb = 0) :
    Calls Try.prog 7 #[.agg #[.bool na, .slice Aa n_a ca], .agg #[.bool nb, .slice Ab n_b cb]] w fun e w' => e = .returned (.bool true) ∧ Below w.heap.size w w' := by
  obtain ⟨l_a, m_a, hl_a, hm_a, hd_a, hf_a⟩ := few_q (neg := na) 120 (by decide) hAa hsa
  obtain ⟨l_b, m_b, hl_b, hm_b, hd_b, hf_b⟩ := few_q (neg := nb) 120 (by decide) hAb hsb
  have Ba := few_bnd (neg := na) (k := 120) hd_a hl_a hm_a
  have Bb := few_bnd (neg := nb) (k := 120) hd_b hl_b hm_b
  by_cases hz : ival nb l_b = 0
  · exact Parts_zero na nb hsa hsb hf_a hf_b ⟨hl_a, hm_a, hd_a⟩ ⟨hl_b, hm_b, hd_b⟩ (Lib.hid rfl) (Lib.hid rfl) Ba Bb hz
  · by_cases hr : (ival na l_a).tmod (ival nb l_b) = 0
    · exact Parts_z na nb hsa hsb hf_a hf_b ⟨hl_a, hm_a, hd_a⟩ ⟨hl_b, hm_b, hd_b⟩ (Lib.hid rfl) (Lib.hid rfl) Ba Bb hz hr
    · by_cases hs : (ival na l_a).sign = (ival nb l_b).sign
      · exact Parts_s na nb hsa hsb hf_a hf_b ⟨hl_a, hm_a, hd_a⟩ ⟨hl_b, hm_b, hd_b⟩ (Lib.hid rfl) (Lib.hid rfl) Ba Bb hz hr hs
      · exact Parts_d na nb hsa hsb hf_a hf_b ⟨hl_a, hm_a, hd_a⟩ ⟨hl_b, hm_b, hd_b⟩ (Lib.hid rfl) (Lib.hid rfl) Ba Bb hz hr hs
end Go.Proofs.Ytggdmhkdmkldoaa

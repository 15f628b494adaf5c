import Derived.Test.YtggdmhkdmkldoaaEha
import Derived.Test.YtggdmhkdmkldoaaEhb
import Derived.Test.YtggdmhkdmkldoaaEhc
import Derived.Test.YtggdmhkdmkldoaaEhd
namespace Go.Proofs.Ytggdmhkdmkldoaa
open Go.RowKit Hb

theorem Shifts_walk (na nb : Bool) {Aa Ab : Option Addr} {la lb : List Nat} {n_a ca n_b cb : Nat} {w : World} (hsa : SlU w w.heap.size Aa n_a ca la) (hsb : SlU w w.heap.size Ab n_b cb lb) (hAa : Aa = none → ca = 0) (hAb : Ab = none → cb = 0) (k : Int) (hk : -9223372036854775808 ≤ k ∧ k ≤ 9223372036854775807) :
    Calls Try.prog 12 #[.agg #[.bool na, .slice Aa n_a ca], .agg #[.bool nb, .slice Ab n_b cb], .int .i64 k] w fun e w' => e = .returned (.bool true) ∧ Below w.heap.size w w' := by
  obtain ⟨l_a, m_a, hl_a, hm_a, hd_a, hf_a⟩ := few_q (neg := na) 60 (by decide) hAa hsa
  obtain ⟨l_b, m_b, hl_b, hm_b, hd_b, hf_b⟩ := few_q (neg := nb) 60 (by decide) hAb hsb
  have Ba := few_bnd (neg := na) (k := 60) hd_a hl_a hm_a
  have Bb := few_bnd (neg := nb) (k := 60) hd_b hl_b hm_b
  by_cases h0 : k < 0
  · obtain ⟨j, hj⟩ : ∃ j : Nat, (j : Int) = -(k + 1) % 900 := ⟨(-(k + 1) % 900).toNat, by omega⟩
    by_cases hc : Nat.gcd (ival na l_a).natAbs (ival nb l_b).natAbs = 0
    · exact Shifts_nz na nb hsa hsb hf_a hf_b ⟨hl_a, hm_a, hd_a⟩ ⟨hl_b, hm_b, hd_b⟩ (Lib.hid rfl) (Lib.hid rfl) Ba Bb hk h0 hj hc
    · exact Shifts_nn na nb hsa hsb hf_a hf_b ⟨hl_a, hm_a, hd_a⟩ ⟨hl_b, hm_b, hd_b⟩ (Lib.hid rfl) (Lib.hid rfl) Ba Bb hk h0 hj hc
  · obtain ⟨j, hj⟩ : ∃ j : Nat, (j : Int) = k % 900 := ⟨(k % 900).toNat, by omega⟩
    by_cases hc : Nat.gcd (ival na l_a).natAbs (ival nb l_b).natAbs = 0
    · exact Shifts_pz na nb hsa hsb hf_a hf_b ⟨hl_a, hm_a, hd_a⟩ ⟨hl_b, hm_b, hd_b⟩ (Lib.hid rfl) (Lib.hid rfl) Ba Bb hk h0 hj hc
    · exact Shifts_pn na nb hsa hsb hf_a hf_b ⟨hl_a, hm_a, hd_a⟩ ⟨hl_b, hm_b, hd_b⟩ (Lib.hid rfl) (Lib.hid rfl) Ba Bb hk h0 hj hc
end Go.Proofs.Ytggdmhkdmkldoaa

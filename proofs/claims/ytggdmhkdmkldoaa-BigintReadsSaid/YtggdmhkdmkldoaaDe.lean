import Derived.Test.YtggdmhkdmkldoaaDea
import Derived.Test.YtggdmhkdmkldoaaDeb
import Derived.Test.YtggdmhkdmkldoaaDec
import Derived.Test.YtggdmhkdmkldoaaDed
namespace Go.Proofs.Ytggdmhkdmkldoaa
open Go.RowKit Hb

theorem Reads_walk (na nb : Bool) {Aa Ab : Option Addr} {la lb : List Nat} {n_a ca n_b cb : Nat} {w : World} (hsa : SlU w w.heap.size Aa n_a ca la) (hsb : SlU w w.heap.size Ab n_b cb lb) (hAa : Aa = none → ca = 0) (hAb : Ab = none → cb = 0) (k : Int) (hk : -9223372036854775808 ≤ k ∧ k ≤ 9223372036854775807) :
    Calls Try.prog 5 #[.agg #[.bool na, .slice Aa n_a ca], .agg #[.bool nb, .slice Ab n_b cb], .int .i64 k] w fun e w' => e = .returned (.bool true) ∧ Below w.heap.size w w' := by
  obtain ⟨l_a, m_a, hl_a, hm_a, hd_a, hf_a⟩ := few_q (neg := na) 128 (by decide) hAa hsa
  obtain ⟨l_b, m_b, hl_b, hm_b, hd_b, hf_b⟩ := few_q (neg := nb) 128 (by decide) hAb hsb
  have Ba := few_bnd (neg := na) (k := 128) hd_a hl_a hm_a
  have Bb := few_bnd (neg := nb) (k := 128) hd_b hl_b hm_b
  have Ta := tooLong_lt _ (by decide) Ba
  have Tb := tooLong_lt _ (by decide) Bb
  have hS : ∀ r : Nat, 2 ≤ r → (strN (txtZ (ival na l_a) r)).size ≤ maxLen := fun r hr => Nat.le_trans (strN_size hr Ta) (by decide)
  by_cases hk0 : k < 0
  · obtain ⟨r, hr⟩ : ∃ r : Nat, (r : Int) = 2 + -(k + 1) % 35 := ⟨(2 + -(k + 1) % 35).toNat, by omega⟩
    have hr2 : 2 ≤ r := by omega
    have hr3 : r ≤ 36 := by omega
    by_cases hz : ival na l_a = ival nb l_b
    · exact Reads_ns na nb hsa hsb hf_a hf_b ⟨hl_a, hm_a, hd_a⟩ ⟨hl_b, hm_b, hd_b⟩ (Lib.hid rfl) (Lib.hid rfl) Ta Tb ⟨hr2, hr3⟩ (Lib.hid rfl) (Lib.hid rfl) (hS r hr2) hk hk0 hr hz
    · exact Reads_nd na nb hsa hsb hf_a hf_b ⟨hl_a, hm_a, hd_a⟩ ⟨hl_b, hm_b, hd_b⟩ (Lib.hid rfl) (Lib.hid rfl) Ta Tb ⟨hr2, hr3⟩ (Lib.hid rfl) (Lib.hid rfl) (hS r hr2) hk hk0 hr hz
  · obtain ⟨r, hr⟩ : ∃ r : Nat, (r : Int) = 2 + k % 35 := ⟨(2 + k % 35).toNat, by omega⟩
    have hr2 : 2 ≤ r := by omega
    have hr3 : r ≤ 36 := by omega
    by_cases hz : ival na l_a = ival nb l_b
    · exact Reads_ts na nb hsa hsb hf_a hf_b ⟨hl_a, hm_a, hd_a⟩ ⟨hl_b, hm_b, hd_b⟩ (Lib.hid rfl) (Lib.hid rfl) Ta Tb ⟨hr2, hr3⟩ (Lib.hid rfl) (Lib.hid rfl) (hS r hr2) hk hk0 hr hz
    · exact Reads_td na nb hsa hsb hf_a hf_b ⟨hl_a, hm_a, hd_a⟩ ⟨hl_b, hm_b, hd_b⟩ (Lib.hid rfl) (Lib.hid rfl) Ta Tb ⟨hr2, hr3⟩ (Lib.hid rfl) (Lib.hid rfl) (hS r hr2) hk hk0 hr hz
end Go.Proofs.Ytggdmhkdmkldoaa

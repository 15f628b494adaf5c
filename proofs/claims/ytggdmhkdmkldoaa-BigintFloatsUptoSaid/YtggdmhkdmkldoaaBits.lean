/-
  Bits of whole numbers and of limbs: plain arithmetic.
-/
import Derived.Test.YtggdmhkdmkldoaaMath
namespace Hb

/-! ### an integer's bits, without an end -/
def ib (z : Int) (i : Nat) : Bool := decide (z / (2 : Int) ^ i % 2 = 1)
theorem ib_zero (z : Int) : ib z 0 = decide (z % 2 = 1) := by simp [ib]
theorem ib_half (z : Int) (i : Nat) : ib (z / 2) i = ib z (i + 1) := by
  unfold ib
  rw [Int.ediv_ediv_of_nonneg (by decide), Int.pow_succ, Int.mul_comm (2 ^ i)]
theorem ib_range : ∀ (n : Nat) (x y : Int), -(2 : Int) ^ n ≤ x → x < 2 ^ n → -(2 : Int) ^ n ≤ y → y < 2 ^ n → (∀ i, ib x i = ib y i) → x = y
  | 0, x, y, h1, h2, h3, h4, h => by
    have h5 := h 0
    rw [ib_zero, ib_zero, decide_eq_decide] at h5
    simp at h1 h2 h3 h4
    omega
  | n + 1, x, y, h1, h2, h3, h4, h => by
    have e : x / 2 = y / 2 := by
      rw [Int.pow_succ] at h1 h2 h3 h4
      refine ib_range n _ _ (by omega) (by omega) (by omega) (by omega) (fun i => ?_)
      rw [ib_half, ib_half]; exact h (i + 1)
    have h5 := h 0
    rw [ib_zero, ib_zero, decide_eq_decide] at h5
    omega
theorem lt_pow_abs (x : Int) : -(2 : Int) ^ x.natAbs ≤ x ∧ x < 2 ^ x.natAbs := by
  have h : x.natAbs < 2 ^ x.natAbs := Nat.lt_two_pow_self
  have h2 : ((2 ^ x.natAbs : Nat) : Int) = (2 : Int) ^ x.natAbs := by simp
  omega
theorem pow_mono_int {a b : Nat} (h : a ≤ b) : (2 : Int) ^ a ≤ 2 ^ b := by
  have h1 := Nat.pow_le_pow_right (n := 2) (by decide) h
  have h2 : ((2 ^ a : Nat) : Int) = (2 : Int) ^ a := by simp
  have h3 : ((2 ^ b : Nat) : Int) = (2 : Int) ^ b := by simp
  omega
theorem ib_ext {x y : Int} (h : ∀ i, ib x i = ib y i) : x = y := by
  have hx := lt_pow_abs x
  have hy := lt_pow_abs y
  have h1 := pow_mono_int (Nat.le_max_left x.natAbs y.natAbs)
  have h2 := pow_mono_int (Nat.le_max_right x.natAbs y.natAbs)
  exact ib_range (max x.natAbs y.natAbs) x y (by omega) (by omega) (by omega) (by omega) h
/-- a natural number's -/
theorem ib_nat (n i : Nat) : ib (n : Int) i = n.testBit i := by
  rw [ib, Nat.testBit_eq_decide_div_mod_eq]
  have : ((n : Int) / (2 : Int) ^ i) % 2 = ((n / 2 ^ i % 2 : Nat) : Int) := by simp
  rw [this]
  exact decide_eq_decide.2 (by omega)
/-- below 2 ^ K, taken as a two's complement of K bits -/
def tcv (K n : Nat) : Int := if 2 * n < 2 ^ K then (n : Int) else (n : Int) - (2 : Int) ^ K
theorem ib_tcv {K n : Nat} (h : n < 2 ^ K) (i : Nat) : ib (tcv K n) i = if i < K then n.testBit i else decide (¬ 2 * n < 2 ^ K) := by
  have hc : ∀ a : Nat, ((2 ^ a : Nat) : Int) = (2 : Int) ^ a := fun a => by simp
  unfold tcv
  by_cases h2 : 2 * n < 2 ^ K
  · rw [if_pos h2, ib_nat]
    by_cases hi : i < K
    · rw [if_pos hi]
    · rw [if_neg hi]
      have : n.testBit i = false := Nat.testBit_lt_two_pow (Nat.lt_of_lt_of_le h (Nat.pow_le_pow_right (by decide) (by omega)))
      rw [this]; simp [h2]
  · rw [if_neg h2]
    by_cases hi : i < K
    · rw [if_pos hi, ← ib_nat]
      unfold ib
      obtain ⟨d, rfl⟩ : ∃ d, K = i + (d + 1) := ⟨K - i - 1, by omega⟩
      rw [Int.pow_add, Int.sub_mul_ediv_left _ _ (by rw [← hc]; have := Nat.pow_pos (a := 2) (n := i) (by decide); omega), Int.pow_succ]
      exact decide_eq_decide.2 (by omega)
    · rw [if_neg hi, decide_eq_true h2]
      have h3 : ((n : Int) - (2 : Int) ^ K) / (2 : Int) ^ i = -1 := by
        have h4 := pow_mono_int (show K ≤ i by omega)
        have h5 := hc K
        have h6 : (0 : Int) < 2 ^ i := by rw [← hc]; have := Nat.pow_pos (a := 2) (n := i) (by decide); omega
        rw [Int.ediv_eq_iff_of_pos h6]
        constructor <;> omega
      rw [ib, h3]; decide
theorem ib_shift (z : Int) (k i : Nat) : ib (z / (2 : Int) ^ k) i = ib z (k + i) := by
  unfold ib
  have hc : ((2 ^ k : Nat) : Int) = (2 : Int) ^ k := by simp
  have h6 : (0 : Int) ≤ 2 ^ k := by rw [← hc]; exact Int.natCast_nonneg _
  rw [Int.ediv_ediv_of_nonneg h6, Int.pow_add]
theorem ib_none (i : Nat) : ib 0 i = false := by simp [ib]
theorem ib_all (i : Nat) : ib (-1) i = true := by
  have hc : ((2 ^ i : Nat) : Int) = (2 : Int) ^ i := by simp
  have h6 : (0 : Int) < 2 ^ i := by rw [← hc]; have := Nat.pow_pos (a := 2) (n := i) (by decide); omega
  have h3 : (-1 : Int) / (2 : Int) ^ i = -1 := by
    rw [Int.ediv_eq_iff_of_pos h6]
    constructor <;> omega
  rw [ib, h3]; decide
theorem ib_not (z : Int) (i : Nat) : ib (-1 - z) i = !ib z i := by
  have hc : ((2 ^ i : Nat) : Int) = (2 : Int) ^ i := by simp
  have h6 : (0 : Int) < 2 ^ i := by rw [← hc]; have := Nat.pow_pos (a := 2) (n := i) (by decide); omega
  have h3 : (-1 - z) / (2 : Int) ^ i = -1 - z / (2 : Int) ^ i := by
    rw [Int.ediv_eq_iff_of_pos h6]
    have h1 := Int.mul_ediv_add_emod z (2 ^ i)
    have h2 := Int.emod_nonneg z (b := 2 ^ i) (by omega)
    have h4 := Int.emod_lt_of_pos z h6
    have e : (-1 - z / (2 : Int) ^ i) * 2 ^ i = -(2 : Int) ^ i - 2 ^ i * (z / 2 ^ i) := by rw [Int.sub_mul, Int.mul_comm (z / 2 ^ i)]; omega
    constructor <;> omega
  unfold ib
  rw [h3]
  by_cases h : z / (2 : Int) ^ i % 2 = 1
  · rw [decide_eq_true h]; exact decide_eq_false (by omega)
  · rw [decide_eq_false h]; exact decide_eq_true (by omega)
/-- all bits from K on alike: the integer lies in the range of K bits -/
theorem range_of_ib {z : Int} {K : Nat} (h : ∀ i, K ≤ i → ib z i = ib z K) : -(2 : Int) ^ K ≤ z ∧ z < 2 ^ K := by
  have hc : ((2 ^ K : Nat) : Int) = (2 : Int) ^ K := by simp
  have h6 : (0 : Int) < 2 ^ K := by rw [← hc]; have := Nat.pow_pos (a := 2) (n := K) (by decide); omega
  have h1 := Int.mul_ediv_add_emod z (2 ^ K)
  have h2 := Int.emod_nonneg z (b := 2 ^ K) (by omega)
  have h4 := Int.emod_lt_of_pos z h6
  have key : z / (2 : Int) ^ K = 0 ∨ z / (2 : Int) ^ K = -1 := by
    cases hb : ib z K
    · left; exact ib_ext fun i => by rw [ib_shift, ib_none, h _ (by omega), hb]
    · right; exact ib_ext fun i => by rw [ib_shift, ib_all, h _ (by omega), hb]
  rcases key with e | e
  · rw [e] at h1; omega
  · rw [e] at h1; omega
theorem ib_of_range {z : Int} {K : Nat} (h1 : -(2 : Int) ^ K ≤ z) (h2 : z < 2 ^ K) {i : Nat} (hi : K ≤ i) : ib z i = decide (z < 0) := by
  have h4 := pow_mono_int hi
  have hc : ((2 ^ i : Nat) : Int) = (2 : Int) ^ i := by simp
  have h6 : (0 : Int) < 2 ^ i := by rw [← hc]; have := Nat.pow_pos (a := 2) (n := i) (by decide); omega
  by_cases hz : z < 0
  · have h3 : z / (2 : Int) ^ i = -1 := by rw [Int.ediv_eq_iff_of_pos h6]; constructor <;> omega
    rw [ib, h3, decide_eq_true hz]; decide
  · have h3 : z / (2 : Int) ^ i = 0 := by rw [Int.ediv_eq_iff_of_pos h6]; constructor <;> omega
    rw [ib, h3, decide_eq_false hz]; decide
/-- and, or together are the sum -/
theorem and_or_sum : ∀ (n : Nat) (x y s o : Int), (∀ v ∈ [x, y, s, o], -(2 : Int) ^ n ≤ v ∧ v < 2 ^ n) → (∀ i, ib s i = (ib x i && ib y i)) → (∀ i, ib o i = (ib x i || ib y i)) → s + o = x + y
  | 0, x, y, s, o, hr, hs, ho => by
    have a := hr x (by simp); have b := hr y (by simp); have c := hr s (by simp); have d := hr o (by simp)
    have e := hs 0; have f := ho 0
    simp only [ib_zero] at e f
    simp at a b c d
    by_cases hx : x % 2 = 1 <;> by_cases hy : y % 2 = 1 <;> simp [hx, hy] at e f <;> omega
  | n + 1, x, y, s, o, hr, hs, ho => by
    have a := hr x (by simp); have b := hr y (by simp); have c := hr s (by simp); have d := hr o (by simp)
    have hh := and_or_sum n (x / 2) (y / 2) (s / 2) (o / 2) (fun v hv => by
      simp at hv
      rw [Int.pow_succ] at a b c d
      rcases hv with rfl | rfl | rfl | rfl <;> omega) (fun i => by rw [ib_half, ib_half, ib_half]; exact hs (i + 1)) (fun i => by rw [ib_half, ib_half, ib_half]; exact ho (i + 1))
    have e := hs 0; have f := ho 0
    simp only [ib_zero] at e f
    by_cases hx : x % 2 = 1 <;> by_cases hy : y % 2 = 1 <;> simp [hx, hy] at e f <;> omega
/-- the bits of limbs -/
theorem nv_testBit {l : List Nat} (hd : Dig W l) : ∀ i, (nv W l).testBit i = (l.getD (i / 32) 0).testBit (i % 32) := by
  induction l with
  | nil => intro i; simp [nv]
  | cons x l ih =>
    intro i
    have hx : x < 2 ^ 32 := hd.head
    rw [nv_cons, show x + W * nv W l = 2 ^ 32 * nv W l + x by rw [Nat.add_comm], Nat.testBit_two_pow_mul_add _ hx]
    by_cases h : i < 32
    · rw [if_pos h, show i / 32 = 0 by omega, show i % 32 = i by omega]; rfl
    · rw [if_neg h, ih hd.tail, show i / 32 = (i - 32) / 32 + 1 by omega, List.getD_cons_succ, show (i - 32) % 32 = i % 32 by omega]

end Hb

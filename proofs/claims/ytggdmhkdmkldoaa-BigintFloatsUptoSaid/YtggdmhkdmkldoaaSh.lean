/-
  Shift: plain arithmetic.
-/
import Derived.Test.YtggdmhkdmkldoaaMath
namespace Hb

theorem two_pow_cast (k : Nat) : ((2 ^ k : Nat) : Int) = (2 : Int) ^ k := by simp
def shZ (x n : Int) : Int := if 0 ≤ n then x * 2 ^ n.toNat else x / 2 ^ (-n).toNat
theorem shZ_up (x : Int) (k : Nat) : shZ x (k : Int) = x * 2 ^ k := by rw [shZ, if_pos (by omega), Int.toNat_natCast]
theorem shZ_down (x : Int) {k : Nat} (hk : 0 < k) : shZ x (-(k : Int)) = x / 2 ^ k := by
  rw [shZ, if_neg (by omega), Int.neg_neg, Int.toNat_natCast]
theorem shZ_zero (x : Int) : shZ x 0 = x := by
  have := shZ_up x 0
  simpa using this
theorem shZ_nought (n : Int) : shZ 0 n = 0 := by unfold shZ; split <;> simp
theorem up_abs (x : Int) (k : Nat) : (x * 2 ^ k).natAbs = x.natAbs * 2 ^ k := by
  rw [Int.natAbs_mul, Int.natAbs_pow]; rfl
theorem blen_up {a : Nat} (h : a ≠ 0) (k : Nat) : blen (a * 2 ^ k) = blen a + k := by
  have := blen_add_mul (k := k) (x := 0) (y := a) (Nat.two_pow_pos k) h
  rw [Nat.zero_add, Nat.mul_comm] at this; omega
theorem div_of_parts {P : Nat} (hP : 0 < P) {x q r : Int} (h : r + P * q = x) (h0 : 0 ≤ r) (h1 : r < P) : x / (P : Int) = q :=
  ((Int.ediv_emod_unique (by omega)).2 ⟨h, h0, h1⟩).1
theorem down_pos (a k : Nat) : (a : Int) / 2 ^ k = ((a / 2 ^ k : Nat) : Int) := by
  rw [← two_pow_cast]; rfl
theorem down_neg0 {a k : Nat} (h : a % 2 ^ k = 0) : -(a : Int) / 2 ^ k = -((a / 2 ^ k : Nat) : Int) := by
  have h2 := Nat.div_add_mod a (2 ^ k)
  rw [h] at h2
  rw [← two_pow_cast]
  refine div_of_parts (r := 0) (Nat.two_pow_pos k) ?_ (by omega) (by have := Nat.two_pow_pos k; omega)
  have h3 : ((2 ^ k * (a / 2 ^ k) : Nat) : Int) = (a : Int) := by rw [Nat.add_zero] at h2; rw [h2]
  rw [Int.natCast_mul] at h3
  rw [Int.mul_neg, h3]; omega
theorem down_neg1 {a k : Nat} (h : a % 2 ^ k ≠ 0) : -(a : Int) / 2 ^ k = -((a / 2 ^ k : Nat) : Int) + -1 := by
  have h2 := Nat.div_add_mod a (2 ^ k)
  have h4 := Nat.mod_lt a (Nat.two_pow_pos k)
  rw [← two_pow_cast]
  refine div_of_parts (r := ((2 ^ k : Nat) : Int) - (a % 2 ^ k : Nat)) (Nat.two_pow_pos k) ?_ (by omega) (by omega)
  have h3 : ((2 ^ k * (a / 2 ^ k) + a % 2 ^ k : Nat) : Int) = (a : Int) := by rw [h2]
  rw [Int.natCast_add, Int.natCast_mul] at h3
  rw [Int.mul_add, Int.mul_neg]
  generalize ((2 ^ k : Nat) : Int) * ((a / 2 ^ k : Nat) : Int) = t at *
  omega
theorem down_abs (x : Int) (k : Nat) : (x / 2 ^ k).natAbs ≤ x.natAbs := by
  obtain ⟨a, rfl | rfl⟩ := Int.eq_nat_or_neg x
  · rw [down_pos, Int.natAbs_natCast, Int.natAbs_natCast]
    exact Nat.div_le_self _ _
  · rw [Int.natAbs_neg, Int.natAbs_natCast]
    have h4 := Nat.div_le_self a (2 ^ k)
    by_cases h0 : a % 2 ^ k = 0
    · rw [down_neg0 h0, Int.natAbs_neg, Int.natAbs_natCast]; exact h4
    · have h5 : a / 2 ^ k < a := by
        by_cases hk : k = 0
        · subst hk; rw [Nat.pow_zero] at h0; omega
        · refine Nat.div_lt_self (Nat.pos_of_ne_zero (fun e => h0 (by rw [e]; simp))) ?_
          exact Nat.one_lt_two_pow hk
      rw [down_neg1 h0]
      generalize a / 2 ^ k = b at *
      omega
/-- a shift by more bits than there are -/
theorem down_far {x : Int} {M k : Nat} (h : x.natAbs < 2 ^ M) (hk : M ≤ k) : x / 2 ^ k = if x < 0 then -1 else 0 := by
  have h1 : x.natAbs < 2 ^ k := Nat.lt_of_lt_of_le h (Nat.pow_le_pow_right (by decide) hk)
  rcases Int.natAbs_eq x with e | e
  · rw [if_neg (by omega)]
    rw [e, down_pos, Nat.div_eq_of_lt h1]; rfl
  · by_cases h0 : x = 0
    · subst h0; simp
    · have h2 : x.natAbs % 2 ^ k ≠ 0 := by rw [Nat.mod_eq_of_lt h1]; omega
      rw [if_pos (by omega), e, down_neg1 h2, Nat.div_eq_of_lt h1]; rfl
theorem nv_two (k : Nat) : nv W (List.replicate (k / 32) 0 ++ [2 ^ (k % 32)]) = 2 ^ k := by
  rw [nv_append, nv_replicate, nv_single, List.length_replicate, W_pow_eq, Nat.zero_add, ← Nat.pow_add]
  congr 1; omega
theorem dig_two_pow (k : Nat) : Dig W (List.replicate (k / 32) 0 ++ [2 ^ (k % 32)]) := by
  refine Dig.append (Dig.replicate _ _ (by decide)) (Dig.cons ?_ (Dig.nil _))
  have : 2 ^ (k % 32) < 2 ^ 32 := Nat.pow_lt_pow_right (by decide) (by omega)
  exact this
theorem nv_up (l o : List Nat) (k : Nat) (h : nv W o = nv W l * 2 ^ (k % 32)) : nv W (List.replicate (k / 32) 0 ++ o) = nv W l * 2 ^ k := by
  rw [nv_append, nv_replicate, List.length_replicate, W_pow_eq, Nat.zero_add, h, Nat.mul_comm, Nat.mul_assoc, ← Nat.pow_add]
  congr 2; omega
/-! ### what the law BigintShifts asks -/
theorem up_down (x : Int) (k : Nat) : x * 2 ^ k / 2 ^ k = x := Int.mul_ediv_cancel _ (Int.pow_ne_zero (by decide))
theorem up_inj0 {x : Int} {k : Nat} (h : x * 2 ^ k = 0) : x = 0 := by
  rcases Int.mul_eq_zero.1 h with h | h
  · exact h
  · exact absurd h (Int.pow_ne_zero (by decide))
theorem gcd_up (a b k : Nat) : Nat.gcd (a * k) (b * k) = Nat.gcd a b * k := Nat.gcd_mul_right a k b
theorem gcd_tmod_left {x y : Int} {g : Nat} (h : Nat.gcd x.natAbs y.natAbs = g) : x.tmod (g : Int) = 0 ∧ y.tmod (g : Int) = 0 := by
  constructor
  · refine Int.tmod_eq_zero_of_dvd (Int.ofNat_dvd_left.2 ?_)
    rw [← h]; exact Nat.gcd_dvd_left _ _
  · refine Int.tmod_eq_zero_of_dvd (Int.ofNat_dvd_left.2 ?_)
    rw [← h]; exact Nat.gcd_dvd_right _ _
end Hb

/-
  The greatest common divisor by halves and differences: plain arithmetic.
-/
import Derived.Test.YtggdmhkdmkldoaaMath
import Derived.Test.YtggdmhkdmkldoaaSh
namespace Hb

theorem digs_even {P : Nat} (h : P ≠ 0) (he : P % 2 = 0) : digs 2 P = 0 :: digs 2 (P / 2) := by rw [digs_pos (by decide) h, he]
theorem digs_odd {P : Nat} (ho : P % 2 = 1) : digs 2 P = 1 :: digs 2 (P / 2) := by rw [digs_pos (by decide) (by omega), ho]
theorem gcd_half {a b : Nat} (ha : a % 2 = 0) (hb : b % 2 = 1) : Nat.gcd (a / 2) b = Nat.gcd a b := by
  obtain ⟨c, rfl⟩ : ∃ c, a = 2 * c := ⟨a / 2, by omega⟩
  rw [Nat.mul_div_cancel_left _ (by decide)]
  exact (Nat.Coprime.gcd_mul_left_cancel c (by show Nat.gcd 2 b = 1; rw [Nat.gcd_rec, hb]; rfl)).symm
theorem gcd_half' {a b : Nat} (ha : a % 2 = 1) (hb : b % 2 = 0) : Nat.gcd a (b / 2) = Nat.gcd a b := by
  rw [Nat.gcd_comm, gcd_half hb ha, Nat.gcd_comm]
theorem gcd_both {a b : Nat} (ha : a % 2 = 0) (hb : b % 2 = 0) : 2 * Nat.gcd (a / 2) (b / 2) = Nat.gcd a b := by
  obtain ⟨c, rfl⟩ : ∃ c, a = 2 * c := ⟨a / 2, by omega⟩
  obtain ⟨d, rfl⟩ : ∃ d, b = 2 * d := ⟨b / 2, by omega⟩
  rw [Nat.mul_div_cancel_left _ (by decide), Nat.mul_div_cancel_left _ (by decide), Nat.gcd_mul_left]
theorem gcd_twos {a b k G : Nat} (ha : a % 2 = 0) (hb : b % 2 = 0) (h : 2 ^ k * Nat.gcd a b = G) : 2 ^ (k + 1) * Nat.gcd (a / 2) (b / 2) = G := by
  rw [Nat.pow_succ, Nat.mul_assoc, gcd_both ha hb, h]
theorem gcd_less {a b : Nat} (h : b ≤ a) : Nat.gcd (a - b) b = Nat.gcd a b := Nat.gcd_sub_self_left h
theorem nv_twos (k : Nat) (b : Nat) : nv 2 (List.replicate k 0 ++ digs 2 b) = 2 ^ k * b := by
  rw [nv_append, nv_replicate, List.length_replicate, nv_digs (by decide), Nat.zero_add]
theorem dig_twos (k : Nat) (b : Nat) : Dig 2 (List.replicate k 0 ++ digs 2 b) := (Dig.replicate _ _ (by decide)).append (dig_digs (by decide) b)
theorem digs_half_len {P : Nat} (h : P ≠ 0) : (digs 2 P).length = (digs 2 (P / 2)).length + 1 := by rw [digs_pos (by decide) h]; rfl
theorem digs_mod (P : Nat) : (digs 2 P).getD 0 0 = P % 2 := by
  by_cases h : P = 0
  · subst h; rw [digs_zero]; rfl
  · rw [digs_pos (by decide) h]; rfl
/-! ### Shift, by bits -/
theorem nv_take_mod (x k : Nat) : nv 2 ((digs 2 x).take k) = x % 2 ^ k := by
  rcases Nat.lt_or_ge (digs 2 x).length k with h | h
  · rw [List.take_of_length_le (by omega), nv_digs (by decide), Nat.mod_eq_of_lt]
    exact lt_of_digs_length (by decide) (Nat.le_of_lt h)
  · have h1 := nv_take_drop 2 (digs 2 x) k
    rw [nv_digs (by decide), Nat.min_eq_left h] at h1
    have h2 := nv_lt ((dig_digs (b := 2) (by decide) x).take k)
    rw [List.length_take, Nat.min_eq_left h] at h2
    conv => rhs; rw [h1]
    rw [Nat.add_mul_mod_self_left, Nat.mod_eq_of_lt h2]
theorem nv_drop_div (x k : Nat) : nv 2 ((digs 2 x).drop k) = x / 2 ^ k := by
  rcases Nat.lt_or_ge (digs 2 x).length k with h | h
  · rw [List.drop_eq_nil_of_le (by omega), Nat.div_eq_of_lt (lt_of_digs_length (by decide) (Nat.le_of_lt h))]; rfl
  · have h1 := nv_take_drop 2 (digs 2 x) k
    rw [nv_digs (by decide), Nat.min_eq_left h] at h1
    have h2 := nv_lt ((dig_digs (b := 2) (by decide) x).take k)
    rw [List.length_take, Nat.min_eq_left h] at h2
    conv => rhs; rw [h1]
    rw [Nat.add_mul_div_left _ _ (Nat.two_pow_pos k), Nat.div_eq_of_lt h2, Nat.zero_add]
theorem nrm_drop {l : List Nat} (h : Nrm l) (k : Nat) : Nrm (l.drop k) := by
  intro hl
  rw [List.getLast_drop]
  exact h (by rintro rfl; simp at hl)
theorem digs_drop (x k : Nat) : (digs 2 x).drop k = digs 2 (x / 2 ^ k) := by
  have h := nrm_eq_digs (b := 2) (by decide) ((dig_digs (by decide) x).drop k) (nrm_drop (nrm_digs (b := 2) (by decide) x) k)
  rwa [nv_drop_div] at h
end Hb

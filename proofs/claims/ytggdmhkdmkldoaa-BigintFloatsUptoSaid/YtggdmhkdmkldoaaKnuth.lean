/-
  Knuth's division, one limb of the quotient: plain arithmetic.
-/
import Derived.Test.YtggdmhkdmkldoaaMath
namespace Hb

/-- U and V by their highest limbs: U = (T b + u0) P + Ul, V = (v1 b + v0) P + Vl -/
structure Kn (b T u0 Ul v1 v0 Vl P U V : Nat) : Prop where
  hU : U = (T * b + u0) * P + Ul
  hV : V = (v1 * b + v0) * P + Vl
  hUl : Ul < P
  hVl : Vl < P
  hu0 : u0 < b
  hv0 : v0 < b
  hv1 : 1 ≤ v1
  hUV : U < b * V

section
variable {b T u0 Ul v1 v0 Vl P U V q r : Nat}
/-- the first guess is not too small -/
theorem Kn.guess (k : Kn b T u0 Ul v1 v0 Vl P U V) : (T / v1) * v1 + T % v1 = T ∧ U < (T / v1 + 1) * V := by
  have h1 := Nat.div_add_mod' T v1
  have h2 := Nat.mod_lt T (show 0 < v1 by have := k.hv1; omega)
  refine ⟨h1, ?_⟩
  have hUl := k.hUl
  have hu0 := k.hu0
  have h3 : T + 1 ≤ (T / v1 + 1) * v1 := by rw [Nat.add_mul]; omega
  have h4 : (T * b + u0 + 1) ≤ (T + 1) * b := by rw [Nat.add_mul, Nat.one_mul]; omega
  have h5 : U < (T * b + u0 + 1) * P := by rw [k.hU, Nat.add_mul (T * b + u0) 1]; omega
  have h6 : (T * b + u0 + 1) * P ≤ ((T / v1 + 1) * v1 * b) * P := Nat.mul_le_mul_right _ (Nat.le_trans h4 (Nat.mul_le_mul_right _ h3))
  have h7 : ((T / v1 + 1) * v1 * b) * P ≤ (T / v1 + 1) * V := by
    rw [Nat.mul_assoc (T / v1 + 1), Nat.mul_assoc (T / v1 + 1)]
    refine Nat.mul_le_mul_left _ ?_
    rw [k.hV]
    have : v1 * b * P ≤ (v1 * b + v0) * P := Nat.mul_le_mul_right _ (Nat.le_add_right _ _)
    omega
  omega
/-- where the test says so, it is one too great at least -/
theorem Kn.down (k : Kn b T u0 Ul v1 v0 Vl P U V) (hq : q * v1 + r = T) (ht : b ≤ q ∨ r * b + u0 < q * v0) : 1 ≤ q ∧ U < q * V := by
  rcases ht with h | h
  · have := k.hUV
    have h2 : b * V ≤ q * V := Nat.mul_le_mul_right _ h
    have h3 := k.hu0
    exact ⟨by omega, by omega⟩
  · have h0 : 1 ≤ q := by
      rcases Nat.eq_zero_or_pos q with h1 | h1
      · subst h1; rw [Nat.zero_mul] at h; omega
      · exact h1
    refine ⟨h0, ?_⟩
    have h1 : T * b + u0 + 1 ≤ q * (v1 * b + v0) := by
      rw [← hq, Nat.mul_add, Nat.add_mul, Nat.mul_assoc]
      omega
    have h2 : U < (T * b + u0 + 1) * P := by have := k.hUl; rw [k.hU, Nat.add_mul (T * b + u0) 1]; omega
    have h3 : (T * b + u0 + 1) * P ≤ q * (v1 * b + v0) * P := Nat.mul_le_mul_right _ h1
    have h4 : q * (v1 * b + v0) * P ≤ q * V := by
      rw [Nat.mul_assoc]; exact Nat.mul_le_mul_left _ (by rw [k.hV]; omega)
    omega
/-- where it does not, it is at most one too great -/
theorem Kn.stop (k : Kn b T u0 Ul v1 v0 Vl P U V) (hq : q * v1 + r = T) (hq1 : q < b) (ht : q * v0 ≤ r * b + u0) : q * V ≤ U + V := by
  rcases Nat.eq_zero_or_pos q with h0 | h0
  · subst h0; rw [Nat.zero_mul]; omega
  · obtain ⟨p, rfl⟩ : ∃ p, q = p + 1 := ⟨q - 1, by omega⟩
    have h1 : (p + 1) * (v1 * b + v0) ≤ T * b + u0 := by
      rw [← hq, Nat.mul_add, Nat.add_mul ((p + 1) * v1) r b, Nat.mul_assoc]
      omega
    have hv1 := k.hv1
    have hVl := k.hVl
    have hp : p * 1 ≤ (v1 * b + v0) := by
      have : 1 * b ≤ v1 * b := Nat.mul_le_mul_right _ (by omega)
      rw [Nat.one_mul] at this
      omega
    -- p V ≤ p (v1 b + v0 + 1) P ≤ (p + 1) (v1 b + v0) P ≤ U
    have h2 : p * V ≤ p * ((v1 * b + v0 + 1) * P) := Nat.mul_le_mul_left _ (by rw [k.hV, Nat.add_mul (v1 * b + v0) 1 P]; omega)
    have h3 : p * ((v1 * b + v0 + 1) * P) ≤ (p + 1) * (v1 * b + v0) * P := by
      rw [← Nat.mul_assoc]
      refine Nat.mul_le_mul_right _ ?_
      rw [Nat.mul_add, Nat.add_mul]
      omega
    have h4 : (p + 1) * (v1 * b + v0) * P ≤ (T * b + u0) * P := Nat.mul_le_mul_right _ h1
    have h5 : (p + 1) * V = p * V + V := by rw [Nat.add_mul, Nat.one_mul]
    have hU := k.hU
    omega
/-- the highest two limbs are no more than so much -/
theorem Kn.top (k : Kn b T u0 Ul v1 v0 Vl P U V) : T < (v1 + 1) * b := by
  have hUV := k.hUV
  have hVl := k.hVl
  have hv0 := k.hv0
  have h1 : V < (v1 + 1) * b * P := by
    have : (v1 * b + v0 + 1) * P ≤ (v1 + 1) * b * P := Nat.mul_le_mul_right _ (by rw [Nat.add_mul, Nat.one_mul]; omega)
    rw [Nat.add_mul (v1 * b + v0) 1 P] at this
    have := k.hV
    omega
  have h2 : U < b * ((v1 + 1) * b * P) := Nat.lt_of_lt_of_le hUV (Nat.mul_le_mul_left _ (Nat.le_of_lt h1))
  rcases Nat.lt_or_ge T ((v1 + 1) * b) with h | h
  · exact h
  · exfalso
    have h3 : (v1 + 1) * b * b * P ≤ T * b * P := Nat.mul_le_mul_right _ (Nat.mul_le_mul_right _ h)
    have h4 : T * b * P ≤ (T * b + u0) * P := Nat.mul_le_mul_right _ (by omega)
    have h5 : b * ((v1 + 1) * b * P) = (v1 + 1) * b * b * P := by
      rw [Nat.mul_comm b, Nat.mul_assoc ((v1 + 1) * b), Nat.mul_comm P b, ← Nat.mul_assoc]
    have := k.hU
    omega
/-- where the remainder has passed 32 bits, there is no need to go on -/
theorem Kn.broke (k : Kn b T u0 Ul v1 v0 Vl P U V) (hq : q * v1 + r = T) (hr : b ≤ r) : q < b ∧ q * v0 ≤ r * b + u0 := by
  have ht := k.top
  have h1 : q < b := by
    rcases Nat.lt_or_ge q b with h | h
    · exact h
    · exfalso
      have h2 : b * v1 ≤ q * v1 := Nat.mul_le_mul_right _ h
      rw [Nat.add_mul, Nat.one_mul, Nat.mul_comm v1 b] at ht
      omega
  refine ⟨h1, ?_⟩
  have h2 : q * v0 ≤ b * b := Nat.mul_le_mul (by omega) (Nat.le_of_lt k.hv0)
  have h3 : b * b ≤ r * b := Nat.mul_le_mul_right _ hr
  omega
end
/-- not too small, at most one too great: which it is -/
theorem quo_of {U V q : Nat} (_hV : 0 < V) (h1 : U < (q + 1) * V) (h2 : q * V ≤ U + V) : (q * V ≤ U ∧ U / V = q ∧ U % V = U - q * V) ∨ (U < q * V ∧ 1 ≤ q ∧ U / V = q - 1 ∧ U % V = U + V - q * V) := by
  rcases Nat.lt_or_ge U (q * V) with h | h
  · right
    have h0 : 1 ≤ q := by
      rcases Nat.eq_zero_or_pos q with h1 | h1
      · subst h1; omega
      · exact h1
    obtain ⟨p, rfl⟩ : ∃ p, q = p + 1 := ⟨q - 1, by omega⟩
    have e : (p + 1) * V = p * V + V := by rw [Nat.add_mul, Nat.one_mul]
    have hd : U / V = p := Nat.div_eq_of_lt_le (by omega) (by omega)
    have hm := Nat.div_add_mod' U V
    rw [hd] at hm
    exact ⟨h, h0, by omega, by omega⟩
  · left
    have hd : U / V = q := Nat.div_eq_of_lt_le h h1
    have hm := Nat.div_add_mod' U V
    rw [hd] at hm
    exact ⟨h, hd, by omega⟩
end Hb

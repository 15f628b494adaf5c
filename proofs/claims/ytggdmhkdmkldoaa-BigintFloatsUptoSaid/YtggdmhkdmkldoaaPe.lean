/-
  Bit by bit operations on two's complements: plain arithmetic.
-/
import Derived.Test.YtggdmhkdmkldoaaBits
namespace Hb

theorem top_bit {M v : Nat} (hM : 0 < M) (hv : v < 2 ^ M) : v.testBit (M - 1) = decide (¬ 2 * v < 2 ^ M) := by
  obtain ⟨m, rfl⟩ : ∃ m, M = m + 1 := ⟨M - 1, by omega⟩
  rw [Nat.add_sub_cancel, Nat.testBit_eq_decide_div_mod_eq]
  have hp := Nat.two_pow_pos m
  rw [Nat.pow_succ] at hv ⊢
  refine decide_eq_decide.2 ?_
  by_cases h : v < 2 ^ m
  · rw [Nat.div_eq_of_lt h]; omega
  · have e : v / 2 ^ m = 1 := by
      refine Nat.div_eq_of_lt_le ?_ ?_ <;> omega
    rw [e]; omega
theorem zip_getD {f : Nat → Nat → Nat} {lx ly : List Nat} {K j : Nat} (hx : lx.length = K) (hy : ly.length = K) (hj : j < K) : (List.zipWith f lx ly).getD j 0 = f (lx.getD j 0) (ly.getD j 0) := by
  rw [getD_eq (by rw [List.length_zipWith]; omega), getD_eq (by omega), getD_eq (by omega), List.getElem_zipWith]
theorem dig_zip {f : Nat → Nat → Nat} (hf : ∀ x y, x < 4294967296 → y < 4294967296 → f x y < 4294967296) : ∀ {lx ly : List Nat}, Dig W lx → Dig W ly → Dig W (List.zipWith f lx ly)
  | [], _, _, _ => by simp; exact Dig.nil _
  | _ :: _, [], _, _ => by simp; exact Dig.nil _
  | x :: lx, y :: ly, hx, hy => Dig.cons (hf x y hx.head hy.head) (dig_zip hf hx.tail hy.tail)
section
variable {K : Nat} {lx ly : List Nat} {x y z : Int} {opf : Nat → Nat → Nat} {bop : Bool → Bool → Bool}
theorem zip_bit (hlx : lx.length = K) (hly : ly.length = K) (dx : Dig W lx) (dy : Dig W ly) (hf : ∀ x y, x < 4294967296 → y < 4294967296 → opf x y < 4294967296)
    (hbit : ∀ x y i, x < 4294967296 → y < 4294967296 → i < 32 → (opf x y).testBit i = bop (x.testBit i) (y.testBit i)) {i : Nat} (hi : i < 32 * K) :
    (nv W (List.zipWith opf lx ly)).testBit i = bop ((nv W lx).testBit i) ((nv W ly).testBit i) := by
  rw [nv_testBit (dig_zip hf dx dy), nv_testBit dx, nv_testBit dy, zip_getD hlx hly (by omega)]
  exact hbit _ _ _ (dx.getD (by decide) _) (dy.getD (by decide) _) (Nat.mod_lt _ (by decide))
theorem each_val (hK : 0 < K) (hlx : lx.length = K) (hly : ly.length = K) (dx : Dig W lx) (dy : Dig W ly) (ex : tcv (32 * K) (nv W lx) = x) (ey : tcv (32 * K) (nv W ly) = y)
    (hf : ∀ x y, x < 4294967296 → y < 4294967296 → opf x y < 4294967296)
    (hbit : ∀ x y i, x < 4294967296 → y < 4294967296 → i < 32 → (opf x y).testBit i = bop (x.testBit i) (y.testBit i)) (hz : ∀ i, ib z i = bop (ib x i) (ib y i)) :
    tcv (32 * K) (nv W (List.zipWith opf lx ly)) = z := by
  have hvx := nv_lt dx
  have hvy := nv_lt dy
  have hvo := nv_lt (dig_zip hf dx dy)
  rw [List.length_zipWith, hlx, hly, Nat.min_self, W_pow_eq] at hvo
  rw [hlx, W_pow_eq] at hvx
  rw [hly, W_pow_eq] at hvy
  refine ib_ext fun i => ?_
  rw [hz, ← ex, ← ey, ib_tcv hvx, ib_tcv hvy, ib_tcv hvo]
  by_cases hi : i < 32 * K
  · rw [if_pos hi, if_pos hi, if_pos hi]
    exact zip_bit hlx hly dx dy hf hbit hi
  · rw [if_neg hi, if_neg hi, if_neg hi, ← top_bit (by omega) hvx, ← top_bit (by omega) hvy, ← top_bit (by omega) hvo]
    exact zip_bit hlx hly dx dy hf hbit (by omega)
end
/-- an integer that leaves its highest limb's room, as a two's complement of K limbs -/
theorem tcv_tw {x : Int} {N : Nat} (h : x.natAbs < W ^ N) : tcv (32 * (N + 1)) (if x < 0 then W ^ (N + 1) - x.natAbs else x.natAbs) = x := by
  have e1 : W ^ (N + 1) = 2 ^ (32 * (N + 1)) := W_pow_eq _
  have e2 : W ^ (N + 1) = 4294967296 * W ^ N := by rw [Nat.pow_succ, Nat.mul_comm]
  have e3 : ((2 ^ (32 * (N + 1)) : Nat) : Int) = (2 : Int) ^ (32 * (N + 1)) := by simp
  unfold tcv
  rw [← e3, ← e1]
  generalize W ^ (N + 1) = P at *
  generalize W ^ N = R at *
  clear e1 e3
  by_cases hx : x < 0
  · rw [if_pos hx, if_neg (by omega)]; omega
  · rw [if_neg hx, if_pos (by omega)]; omega
/-- the highest limb tells the sign -/
theorem top_limb {l : List Nat} {N : Nat} (hd : Dig W l) (hl : l.length = N + 1) : (2 * nv W l < 2 ^ (32 * (N + 1))) ↔ l.getD N 0 < 2147483648 := by
  have h1 := take_succ_nv W l (k := N) (by omega)
  rw [List.take_of_length_le (by omega)] at h1
  have h2 := nv_lt (hd.take N)
  rw [List.length_take, hl, Nat.min_eq_left (by omega)] at h2
  rw [h1, ← W_pow_eq, Nat.pow_succ]
  generalize nv W (l.take N) = a at *
  generalize l.getD N 0 = t at *
  generalize W ^ N = P at *
  have hP : 0 < P := by omega
  rw [show P * W = P * 4294967296 from rfl]
  constructor
  · intro h
    refine Nat.lt_of_not_le fun h3 => ?_
    have h4 := Nat.mul_le_mul_left P h3
    omega
  · intro h
    have h4 : P * (t + 1) ≤ P * 2147483648 := Nat.mul_le_mul_left P (by omega)
    rw [Nat.mul_add] at h4
    omega
end Hb

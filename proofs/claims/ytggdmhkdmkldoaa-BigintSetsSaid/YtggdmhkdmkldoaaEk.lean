import Derived.Test.YtggdmhkdmkldoaaEc
import Derived.Test.YtggdmhkdmkldoaaCw
namespace Go.Proofs.Ytggdmhkdmkldoaa
open Go.RowKit Hb

theorem tooLong_up {x : Int} (h : x ≠ 0) (k : Nat) : tooLong (x * 2 ^ k) = decide (4096 < blen x.natAbs + k) := by
  rw [tooLong, up_abs, blen_up (by omega)]
theorem tooLong_down {x : Int} (h : tooLong x = false) (k : Nat) : tooLong (x / 2 ^ k) = false := by
  have h1 := of_decide_eq_false h
  have h2 := blen_mono (down_abs x k)
  exact decide_eq_false (by omega)
theorem Shift_any (neg : Bool) {B : Nat} {A : Option Addr} {l : List Nat} {n c : Nat} {w : World} (hs : SlU w B A n c l) (hn : n ≤ 67108000) (hB : B ≤ w.heap.size) (k : Int) (hk1 : -9223372036854775808 ≤ k) :
    Calls Try.prog 55 #[.agg #[.bool neg, .slice A n c], .int .i64 k] w (PostC w (shZ (ival neg l) k) (err (lng l || tooLong (shZ (ival neg l) k)))) := by
  cases hlg : lng l
  · by_cases h0 : ival neg l = 0
    · have e : tooLong 0 = false := by simp [tooLong, blen_zero]
      rw [h0, shZ_nought, e]
      exact Shift_nought neg hs hn hB hlg h0 k
    · have ht : tooLong (ival neg l) = false := by rw [← hlg]; exact (lng_ival rfl).symm
      have hab := ival_natAbs neg l
      by_cases hk : 0 ≤ k
      · obtain ⟨j, rfl⟩ := Int.eq_ofNat_of_zero_le hk
        rw [shZ_up, tooLong_up h0, hab]
        by_cases hg : 4096 < blen (nv W l) + j
        · rw [decide_eq_true hg]
          exact Shift_great neg hs hn hB hlg h0 j _ rfl hg _
        · rw [decide_eq_false hg]
          exact Shift_up neg hs hn hB hlg h0 j _ rfl (by omega) _ rfl
      · obtain ⟨j, hj⟩ : ∃ j : Nat, k = -(j : Int) := ⟨k.natAbs, by omega⟩
        have hj0 : 0 < j := by omega
        have e : tooLong (shZ (ival neg l) k) = false := by rw [hj, shZ_down _ hj0]; exact tooLong_down ht j
        rw [e]
        by_cases hf : k < -4096
        · refine Shift_down neg hs hn hB hlg h0 k (-4097) 4097 (by omega) (by omega) (by omega) (by omega) hk1 (fun _ => rfl) (fun h => absurd hf h) _ ?_
          have hlt : (ival neg l).natAbs < 2 ^ 4096 := by
            have := of_decide_eq_false ht
            have h9 := (blen_le_iff (n := (ival neg l).natAbs) (k := 4096)).1 (by omega)
            exact h9
          rw [hj, shZ_down _ hj0, down_far (k := 4097) hlt (by omega), down_far (k := j) hlt (by omega)]
        · refine Shift_down neg hs hn hB hlg h0 k k j hj hj0 (by omega) (by omega) hk1 (fun h => absurd h hf) (fun _ => rfl) _ ?_
          rw [hj, shZ_down _ hj0]
  · exact Shift_long neg hs hn hB hlg k _
section
variable {w : World} {A A' : Option Addr} {n c n' c' : Nat} {l m : List Nat} {na nb : Bool} {x y z : Int}
theorem Shift_z {k : Int} (hs : SlU w w.heap.size A n c l) (hn : n ≤ 1000) (hx : ival na l = x) (hk : -9223372036854775808 ≤ k) (hz : shZ x k = z) (t1 : tooLong x = false) (t3 : tooLong z = false) :
    Calls Try.prog 55 #[.agg #[.bool na, .slice A n c], .int .i64 k] w (PostR w z 0) := by
  have h := Shift_any na hs (by omega) (Nat.le_refl _) k hk
  rw [hx, hz, lng_ival hx, t1, t3] at h
  exact h.mono fun _ _ h => h.ok_ rfl
theorem Pow_z {k : Int} (hs : SlU w w.heap.size A n c l) (hn : n ≤ 1000) (hx : ival na l = x) (hk : 0 ≤ k) (hz : x ^ k.toNat = z) (t1 : tooLong x = false) (t3 : tooLong z = false) :
    Calls Try.prog 54 #[.agg #[.bool na, .slice A n c], .int .i64 k] w (PostR w z 0) := by
  have h := Pow_any na hs (by omega) (Nat.le_refl _) k
  rw [hx, hz, lng_ival hx, t1] at h
  have e : pwCode false x k = 0 := by rw [pwCode, if_neg (by simp), if_neg (by omega), hz, t3]; rfl
  rw [e] at h
  exact h.mono fun _ _ h => h.ok_ rfl
theorem Gcd_z (hs : SlU w w.heap.size A n c l) (ht : SlU w w.heap.size A' n' c' m) (hn : n ≤ 1000) (hn' : n' ≤ 1000) (hx : ival na l = x) (hy : ival nb m = y) (hz : (Nat.gcd x.natAbs y.natAbs : Int) = z) (t1 : tooLong x = false) (t2 : tooLong y = false) :
    Calls Try.prog 53 #[.agg #[.bool na, .slice A n c], .agg #[.bool nb, .slice A' n' c']] w (PostR w z 0) := by
  have h := Gcd_any na nb hs ht (by omega) (by omega) (Nat.le_refl _) (Nat.le_refl _)
  have e1 : nv W l = x.natAbs := by rw [← hx, ival_natAbs]
  have e2 : nv W m = y.natAbs := by rw [← hy, ival_natAbs]
  rw [e1, e2, hz, lng_ival hx, lng_ival hy, t1, t2] at h
  exact h.mono fun _ _ h => h.ok_ rfl
end
theorem dvD_pow (x : Int) (k : Nat) : dvD x (2 ^ k) = x / 2 ^ k := by
  have hp : (0 : Int) < 2 ^ k := Int.pow_pos (by decide)
  have h1 := dm_sum x (2 ^ k)
  have h2 := m_abs (x := x) (y := 2 ^ k) (by omega)
  have h3 : 0 ≤ dvM x (2 ^ k) := by
    by_cases h : dvM x (2 ^ k) = 0
    · omega
    · have h4 := m_sign (x := x) (y := 2 ^ k) (by omega) h
      rw [Int.sign_eq_one_of_pos hp] at h4
      have := Int.sign_eq_one_iff_pos.1 h4
      omega
  refine ((Int.ediv_emod_unique hp).2 ⟨?_, h3, by omega⟩).1.symm
  rw [Int.mul_comm (2 ^ k)]; omega
end Go.Proofs.Ytggdmhkdmkldoaa

namespace Go.Proofs.Ytggdmhkdmkldoaa
open Go.RowKit Hb

/-! ### BigintShifts: the plain law -/
theorem up_bnd {x : Int} {K J j : Nat} (hx : x.natAbs < 2 ^ K) (hj : j ≤ J) : (x * 2 ^ j).natAbs < 2 ^ (K + J) := by
  rw [up_abs, Nat.pow_add]
  exact Nat.lt_of_lt_of_le (Nat.mul_lt_mul_of_pos_right hx (Nat.two_pow_pos j)) (Nat.mul_le_mul_left _ (Nat.pow_le_pow_right (by decide) hj))
theorem two_bnd {J j : Nat} (hj : j ≤ J) : ((2 : Int) ^ j).natAbs < 2 ^ (J + 1) := by
  rw [Int.natAbs_pow]
  exact Nat.pow_lt_pow_right (a := 2) (by decide) (by omega)
theorem gcd_bnd {x y : Int} {K : Nat} (hx : x.natAbs < 2 ^ K) (hy : y.natAbs < 2 ^ K) : ((Nat.gcd x.natAbs y.natAbs : Nat) : Int).natAbs < 2 ^ K := by
  rw [Int.natAbs_natCast]
  by_cases h : x.natAbs = 0
  · rw [h, Nat.gcd_zero_left]; exact hy
  · exact Nat.lt_of_le_of_lt (Nat.le_of_dvd (by omega) (Nat.gcd_dvd_left _ _)) hx
theorem shZ_back (x : Int) (j : Nat) : shZ (x * 2 ^ j) (-(j : Int)) = x := by
  by_cases h : j = 0
  · subst h; rw [show (-((0 : Nat) : Int)) = 0 by rfl, shZ_zero]; simp
  · rw [shZ_down _ (by omega), up_down]
theorem shZ_neg (x : Int) (j : Nat) : shZ x (-(j : Int)) = x / 2 ^ j := by
  by_cases h : j = 0
  · subst h; rw [show (-((0 : Nat) : Int)) = 0 by rfl, shZ_zero]; simp
  · exact shZ_down _ (by omega)
theorem shZ_three (x : Int) : shZ x 3 = x * 2 ^ 3 := shZ_up x 3
theorem gcd_three (x y : Int) : ((Nat.gcd (x * 2 ^ 3).natAbs (y * 2 ^ 3).natAbs : Nat) : Int) = ((Nat.gcd x.natAbs y.natAbs : Nat) : Int) * 2 ^ 3 := by
  rw [up_abs, up_abs, gcd_up, Int.natCast_mul]; rfl
theorem pw_ok {x z : Int} {j : Nat} (h : 0 ≤ (j : Int)) (e : x ^ (j : Int).toNat = z) (t : tooLong z = false) : pwCode false x j = 0 := by
  rw [pwCode, if_neg (by simp), if_neg (by omega), e, t]; rfl
theorem from_two {o : Int} (w : World) (h : o = 2) : Calls Try.prog 38 #[.int .i64 2] w (PostI w o) := by
  subst h; exact from_any 2 w (by decide) (by decide)
end Go.Proofs.Ytggdmhkdmkldoaa

import Derived.Test.YtgfeainpeplphaaDoorHr
namespace Hb
open Ieee
theorem order_refl (F : Nat) : double.order F F = if F % 9223372036854775808 ≤ 9218868437227405312 then some .eq else none := by
  have h0 : double.signWeight = 9223372036854775808 := rfl
  have h1 : double.binade = 4503599627370496 := rfl
  have h2 : double.infRung = 9218868437227405312 := rfl
  unfold Format.order Format.read
  simp only [h0, h1, h2]
  by_cases a : F % 9223372036854775808 < 4503599627370496
  · rw [if_pos a, if_pos (by omega)]
    unfold Datum.order
    simp only
    rw [Int.compare_eq_eq.2 rfl]
  · rw [if_neg a]
    by_cases b : F % 9223372036854775808 < 9218868437227405312
    · rw [if_pos b, if_pos (by omega)]
      unfold Datum.order
      simp only
      rw [Int.compare_eq_eq.2 rfl]
    · rw [if_neg b]
      by_cases c : F % 9223372036854775808 = 9218868437227405312
      · rw [if_pos c, if_pos (by omega)]
        unfold Datum.order
        simp only
        rw [Nat.compare_eq_eq.2 rfl]
      · rw [if_neg c, if_neg (by omega)]
        rfl
theorem clear_any (F : Nat) : F &&& (18446744073709551615 - 9223372036854775808) = F % 9223372036854775808 := Nat.and_two_pow_sub_one_eq_mod F 63
end Hb
namespace Go.Proofs.YtgfeainpeplphaaDoor
open Go.RowKit Hb Ht
set_option linter.unusedVariables false
set_option linter.unusedSimpArgs false
attribute [local go_sem] Oper.semAt_some
/-! ### floats that may be -/
def floN (F : Nat) : Bool := decide (F % 9223372036854775808 < 9218868437227405312) && decide (F ≠ 9223372036854775808)
def floB (b : Int) : Bool := floN b.toNat
theorem floN_iff {F : Nat} (hF : F < 18446744073709551616) : (F / 4503599627370496 % 2048 ≠ 2047 ↔ F % 9223372036854775808 < 9218868437227405312) := by omega
theorem clear_bits {F G : Nat} (hF : F < 18446744073709551616) (hG : F % 9223372036854775808 = G) : bits .andNot .u64 (F : Int) 9223372036854775808 = (G : Int) := by
  have h1 := bits_andNot_u64 F 9223372036854775808 hF (by decide)
  rw [show ((9223372036854775808 : Nat) : Int) = 9223372036854775808 from rfl] at h1
  rw [h1, clear_any F, hG]
set_option maxRecDepth 100000 in
theorem AbsF_any (F G : Nat) (hF : F < 18446744073709551616) (hG : F % 9223372036854775808 = G) (w : World) :
    Calls Tryd.prog 93 #[.float .f64 F] w fun e w' => e = .returned (.float .f64 G) ∧ w = w' := by
  have hb := run_bits F
  have hb2 := run_frombits G
  have hb3 := clear_bits hF hG
  clear hG hF
  go_enter Tryd.func93, Tryd.ntmps93
  go_wp2
  go_ret
  exact ⟨rfl, rfl⟩
set_option maxRecDepth 100000 in
theorem Inf0_any (F G : Nat) (hF : F < 18446744073709551616) (hG : F % 9223372036854775808 = G) (hG2 : G ≤ 9218868437227405312) (w : World) :
    Calls Tryd.prog 85 #[.float .f64 F, .int .i64 0] w fun e w' => e = .returned (.bool (decide (G = 9218868437227405312))) ∧ w = w' := by
  obtain ⟨b, hb⟩ : ∃ b, decide (G = 9218868437227405312) = b := ⟨_, rfl⟩
  have ho := order_inf G hG2
  rw [hb] at ho ⊢
  have HA := Lib.hid (AbsF_any F G hF hG)
  clear hb hG
  go_enter Tryd.func85, Tryd.ntmps85
  go_wp2_with fail
  refine (HA.out _).mono ?_
  rintro ex w5 ⟨rfl, rfl⟩
  go_wp2
  go_ret
  exact ⟨rfl, rfl⟩
set_option maxRecDepth 100000 in
theorem NaN_any (F : Nat) (w : World) :
    Calls Tryd.prog 84 #[.float .f64 F] w fun e w' => e = .returned (.bool (decide (9218868437227405312 < F % 9223372036854775808))) ∧ w = w' := by
  by_cases h : 9218868437227405312 < F % 9223372036854775808
  · rw [decide_eq_true h]
    have ho : FloatKind.f64.format.order F F = none := by rw [show FloatKind.f64.format.order F F = _ from order_refl F, if_neg (by omega)]
    clear h
    go_enter Tryd.func84, Tryd.ntmps84
    go_wp2
    go_ret
    exact ⟨rfl, rfl⟩
  · rw [decide_eq_false h]
    have ho : FloatKind.f64.format.order F F = some .eq := by rw [show FloatKind.f64.format.order F F = _ from order_refl F, if_pos (by omega)]
    clear h
    go_enter Tryd.func84, Tryd.ntmps84
    go_wp2
    go_ret
    exact ⟨rfl, rfl⟩
/-! ### the reference's floats -/
theorem bits_and_u64 (a b : Nat) (ha : a < 18446744073709551616) (hb : b < 18446744073709551616) : bits .and .u64 (a : Int) (b : Int) = ((a &&& b : Nat) : Int) := by
  unfold bits
  show IntKind.u64.wrap ((BitVec.ofInt 64 (a : Int) &&& BitVec.ofInt 64 (b : Int)).toNat : Int) = _
  rw [BitVec.toNat_and, ofInt64 ha, ofInt64 hb, u64_wrap (Nat.lt_of_le_of_lt Nat.and_le_left ha)]
set_option maxRecDepth 100000 in
theorem rfloats_any (F : Nat) (hF : F < 18446744073709551616) (w : World) :
    Calls Tryd.prog 76 #[.int .u64 (F : Int)] w fun e w' => e = .returned (.bool (floN F)) ∧ w = w' := by
  have ha : bits .and .u64 ((F : Int) / 4503599627370496) 2047 = ((F / 4503599627370496 % 2048 : Nat) : Int) := by
    have h := bits_and_u64 (F / 4503599627370496) (2 ^ 11 - 1) (by omega) (by decide)
    rw [and_low] at h
    exact h
  have hiff := floN_iff hF
  unfold floN
  obtain ⟨r, hr⟩ : ∃ r, F / 4503599627370496 % 2048 = r := ⟨_, rfl⟩
  rw [hr] at ha hiff
  by_cases h1 : r = 2047
  · subst h1
    have h2 : ¬ F % 9223372036854775808 < 9218868437227405312 := fun h => (hiff.2 h) rfl
    rw [decide_eq_false h2]
    clear h2 hiff hr hF
    go_enter Tryd.func76, Tryd.ntmps76
    go_wp2
    go_ret
    exact ⟨rfl, rfl⟩
  · have h2 : F % 9223372036854775808 < 9218868437227405312 := hiff.1 h1
    have hrI : ((r : Int) != 2047) = true := by simpa using (show (r : Int) ≠ 2047 by omega)
    have hrI2 : ¬ (r : Int) = 2047 := by omega
    rw [decide_eq_true h2]
    by_cases h3 : F = 9223372036854775808
    · subst h3
      rw [show decide ((9223372036854775808 : Nat) ≠ 9223372036854775808) = false from by decide]
      clear h2 hiff hr hF h1
      go_enter Tryd.func76, Tryd.ntmps76
      go_wp2
      go_ret
      exact ⟨rfl, rfl⟩
    · have hFI : ((F : Int) != 9223372036854775808) = true := by simpa using (show (F : Int) ≠ 9223372036854775808 by omega)
      rw [decide_eq_true h3]
      clear h2 hiff hr hF h1 h3
      go_enter Tryd.func76, Tryd.ntmps76
      go_wp2
      go_ret
      exact ⟨rfl, rfl⟩
end Go.Proofs.YtgfeainpeplphaaDoor

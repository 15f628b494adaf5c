import Derived.WalkKit
import Derived.Laws.Cover2
import Derived.Laws.FloatArith
import Derived.Test.YtggdmhkdmkldoaaPg
import Derived.Test.YtggdmhkdmkldoaaBl
import Derived.Test.YtggdmhkdmkldoaaSh
/-
  Binary floating point: what is used of the words of a double. No program in sight.
-/
namespace Hb
open Ieee

/-- the exact value of a rung, in units of the least place -/
def rv (r : Nat) : Nat := if r < 2 ^ 52 then r else (2 ^ 52 + r % 2 ^ 52) * 2 ^ (r / 2 ^ 52 - 1)
theorem rv_lt {r s : Nat} (h : r < s) : rv r < rv s := by
  unfold rv
  by_cases hr : r < 2 ^ 52
  · rw [if_pos hr]
    by_cases hs : s < 2 ^ 52
    · rw [if_pos hs]; exact h
    · rw [if_neg hs]
      have h1 : 1 ≤ 2 ^ (s / 2 ^ 52 - 1) := Nat.one_le_two_pow
      have h2 : (2 ^ 52 + s % 2 ^ 52) * 1 ≤ (2 ^ 52 + s % 2 ^ 52) * 2 ^ (s / 2 ^ 52 - 1) := Nat.mul_le_mul_left _ h1
      omega
  · have hs : ¬ s < 2 ^ 52 := by omega
    rw [if_neg hr, if_neg hs]
    have hq : r / 2 ^ 52 ≤ s / 2 ^ 52 := Nat.div_le_div_right (Nat.le_of_lt h)
    rcases Nat.eq_or_lt_of_le hq with e | hlt
    · rw [e]
      refine Nat.mul_lt_mul_of_pos_right ?_ (Nat.two_pow_pos _)
      have h1 := Nat.div_add_mod r (2 ^ 52)
      have h2 := Nat.div_add_mod s (2 ^ 52)
      rw [e] at h1
      omega
    · have h1 : r % 2 ^ 52 < 2 ^ 52 := Nat.mod_lt _ (by decide)
      have hr1 : 1 ≤ r / 2 ^ 52 := (Nat.le_div_iff_mul_le (by decide)).2 (by omega)
      generalize r / 2 ^ 52 = a at *
      generalize s / 2 ^ 52 = b at *
      have h2 : 2 * 2 ^ (a - 1) ≤ 2 ^ (b - 1) := by
        rw [Nat.mul_comm, ← Nat.pow_succ]
        exact Nat.pow_le_pow_right (by decide) (by omega)
      have h3 : (2 ^ 52 + r % 2 ^ 52) * 2 ^ (a - 1) < (2 ^ 52 * 2) * 2 ^ (a - 1) := Nat.mul_lt_mul_of_pos_right (by omega) (Nat.two_pow_pos _)
      have h4 : 2 ^ 52 * (2 * 2 ^ (a - 1)) ≤ 2 ^ 52 * 2 ^ (b - 1) := Nat.mul_le_mul_left _ h2
      have h5 : 2 ^ 52 * 2 ^ (b - 1) ≤ (2 ^ 52 + s % 2 ^ 52) * 2 ^ (b - 1) := Nat.mul_le_mul_right _ (by omega)
      rw [Nat.mul_assoc] at h3
      omega
theorem rv_inj {r s : Nat} : (rv r < rv s ↔ r < s) := by
  constructor
  · intro h
    rcases Nat.lt_trichotomy r s with h1 | h1 | h1
    · exact h1
    · subst h1; omega
    · have := rv_lt h1; omega
  · exact rv_lt
/-- a finite word of no sign reads as a number; its magnitude and place -/
theorem read_pos {r : Nat} (h : r < 9218868437227405312) : ∃ m p, double.read r = .number false m p ∧ (-1074 : Int) ≤ p ∧ m * 2 ^ (p + 1074).toNat = rv r := by
  have h1 : double.signWeight = 9223372036854775808 := rfl
  have h2 : double.binade = 4503599627370496 := rfl
  have h3 : double.infRung = 9218868437227405312 := rfl
  have h4 : double.leastPlace = -1074 := rfl
  have e1 : r / 9223372036854775808 % 2 = 0 := by omega
  have e2 : r % 9223372036854775808 = r := by omega
  unfold Format.read
  simp only [h1, h2, h3, h4, e1, e2]
  unfold rv
  by_cases hr : r < 4503599627370496
  · rw [if_pos hr, if_pos (show r < 2 ^ 52 from hr)]
    exact ⟨r, -1074, rfl, Int.le_refl _, by simp⟩
  · rw [if_neg hr, if_pos h, if_neg (show ¬ r < 2 ^ 52 from hr)]
    refine ⟨_, _, rfl, by omega, ?_⟩
    have e3 : (-1074 + ((r / 4503599627370496 - 1 : Nat) : Int) + 1074).toNat = r / 4503599627370496 - 1 := by omega
    rw [e3]
theorem signed_pos (m u : Nat) : signed false m u = ((m * 2 ^ u : Nat) : Int) := by
  rw [signed, if_neg (by simp), Nat.shiftLeft_eq]
theorem order_pos {x y : Nat} (hx : x < 9218868437227405312) (hy : y < 9218868437227405312) : double.order x y = some (compare x y) := by
  obtain ⟨m, p, e1, hp, hm⟩ := read_pos hx
  obtain ⟨n, q, e2, hq, hn⟩ := read_pos hy
  unfold Format.order
  rw [e1, e2]
  show some (compare (signed false m (p - min p q).toNat) (signed false n (q - min p q).toNat)) = _
  congr 1
  rw [signed_pos, signed_pos]
  obtain ⟨b, hb⟩ : ∃ b : Nat, (min p q + 1074) = (b : Int) := ⟨(min p q + 1074).toNat, by omega⟩
  have k1 : m * 2 ^ (p - min p q).toNat * 2 ^ b = rv x := by
    rw [← hm, Nat.mul_assoc, ← Nat.pow_add]
    congr 2
    omega
  have k2 : n * 2 ^ (q - min p q).toNat * 2 ^ b = rv y := by
    rw [← hn, Nat.mul_assoc, ← Nat.pow_add]
    congr 2
    omega
  generalize m * 2 ^ (p - min p q).toNat = M at *
  generalize n * 2 ^ (q - min p q).toNat = N at *
  have hpos := Nat.two_pow_pos b
  have hlt : (M < N ↔ x < y) := by
    rw [← rv_inj (r := x) (s := y), ← k1, ← k2]
    constructor
    · intro h; exact Nat.mul_lt_mul_of_pos_right h hpos
    · intro h; exact Nat.lt_of_mul_lt_mul_right h
  have hgt : (N < M ↔ y < x) := by
    rw [← rv_inj (r := y) (s := x), ← k1, ← k2]
    constructor
    · intro h; exact Nat.mul_lt_mul_of_pos_right h hpos
    · intro h; exact Nat.lt_of_mul_lt_mul_right h
  rcases Nat.lt_trichotomy x y with h | h | h
  · rw [Nat.compare_eq_lt.2 h]
    have := hlt.2 h
    exact Int.compare_eq_lt.2 (by omega)
  · have h1 : M = N := by
      rcases Nat.lt_trichotomy M N with h2 | h2 | h2
      · have := hlt.1 h2; omega
      · exact h2
      · have := hgt.1 h2; omega
    rw [Nat.compare_eq_eq.2 h]
    exact Int.compare_eq_eq.2 (by omega)
  · rw [Nat.compare_eq_gt.2 h]
    have := hgt.2 h
    exact Int.compare_eq_gt.2 (by omega)
theorem order_lt {x y : Nat} (hy : y < 9218868437227405312) (h : x < y) : double.order x y = some .lt := by
  rw [order_pos (by omega) hy, Nat.compare_eq_lt.2 h]
theorem order_gt {x y : Nat} (hx : x < 9218868437227405312) (h : y < x) : double.order x y = some .gt := by
  rw [order_pos hx (by omega), Nat.compare_eq_gt.2 h]
theorem order_self {x : Nat} (hx : x < 9218868437227405312) : double.order x x = some .eq := by
  rw [order_pos hx hx, Nat.compare_eq_eq.2 rfl]
theorem log2_at {m k : Nat} (h1 : 2 ^ 52 ≤ m) (h2 : m < 2 ^ 53) : Nat.log2 (m * 2 ^ k) = 52 + k := by
  have hp := Nat.two_pow_pos k
  have hne : m * 2 ^ k ≠ 0 := Nat.mul_ne_zero (by omega) (by omega)
  refine (Nat.log2_eq_iff hne).2 ⟨?_, ?_⟩
  · rw [Nat.pow_add]; exact Nat.mul_le_mul_right _ h1
  · rw [show 52 + k + 1 = 53 + k by omega, Nat.pow_add]; exact Nat.mul_lt_mul_of_pos_right h2 hp
theorem cut_exact (m k : Nat) (h1 : 2 ^ 52 ≤ m) (h2 : m < 2 ^ 53) (neg : Bool) : Toward.even.cut neg (m * 2 ^ k) k = m := by
  have hp := Nat.two_pow_pos k
  unfold Toward.cut
  rw [log2_at h1 h2, Nat.min_eq_left (by omega), Nat.shiftLeft_eq, Nat.one_mul]
  simp only [Nat.mul_div_cancel _ hp, Nat.mul_mod_left]
  have e1 : decide (2 ^ k < 2 * 0) = false := decide_eq_false (by omega)
  have e2 : (2 ^ k == 2 * 0) = false := beq_eq_false_iff_ne.2 (by omega)
  simp [e1, e2]
theorem nearest_at {m k : Nat} {q p : Int} (h1 : 2 ^ 52 ≤ m) (h2 : m < 2 ^ 53) (hp : q + (k : Int) = p) (hp1 : -1074 ≤ p) (hp2 : p ≤ 971) :
    double.nearest false (m * 2 ^ k) q = (p + 1074).toNat * 2 ^ 52 + m := by
  have g1 : (double.fractionBits : Int) = 52 := rfl
  have g2 : double.binade = 4503599627370496 := rfl
  have g3 : double.infRung = 9218868437227405312 := rfl
  have g4 : double.leastPlace = -1074 := rfl
  have hne : m * 2 ^ k ≠ 0 := Nat.mul_ne_zero (by omega) (Nat.ne_of_gt (Nat.two_pow_pos k))
  unfold Format.nearest
  rw [if_neg hne, log2_at h1 h2]
  simp only [g1, g2, g3, g4]
  have e1 : max (q + ((52 + k : Nat) : Int) - 52) (-1074) = p := by omega
  rw [e1]
  have e2 : (q - p).toNat = 0 := by omega
  have e3 : (p - q).toNat = k := by omega
  rw [e2, e3, Nat.shiftLeft_zero, cut_exact m k h1 h2]
  have e4 : (p - -1074).toNat = (p + 1074).toNat := by omega
  rw [e4]
  unfold Format.word
  rw [if_neg (by simp)]
  have h3 : (p + 1074).toNat ≤ 2045 := by omega
  rw [Nat.min_eq_left (by omega)]
theorem float_of_top {t : Nat} (h1 : 2 ^ 52 ≤ t) (h2 : t ≤ 2 ^ 53) : Go.FloatKind.f64.nearest (t : Int) = 1074 * 2 ^ 52 + t := by
  unfold Go.FloatKind.nearest Go.FloatKind.encode
  show double.nearest (decide ((t : Int) < 0)) (t : Int).natAbs 0 = _
  rw [decide_eq_false (by omega), Int.natAbs_natCast]
  rcases Nat.lt_or_ge t (2 ^ 53) with h | h
  · have := nearest_at (k := 0) (q := 0) (p := 0) h1 h (by omega) (by omega) (by omega)
    rw [Nat.pow_zero, Nat.mul_one] at this
    exact this
  · obtain rfl : t = 2 ^ 53 := by omega
    have := nearest_at (m := 2 ^ 52) (k := 1) (q := 0) (p := 1) (by decide) (by decide) (by omega) (by omega) (by omega)
    exact this
theorem mul_one_f {x : Nat} (h1 : 2 ^ 52 ≤ x) (h2 : x < 9218868437227405312) : double.mul 4607182418800017408 x = some x := by
  have g1 : double.signWeight = 9223372036854775808 := rfl
  have g2 : double.binade = 4503599627370496 := rfl
  have g3 : double.infRung = 9218868437227405312 := rfl
  have g4 : double.leastPlace = -1074 := rfl
  have e1 : x / 9223372036854775808 % 2 = 0 := by omega
  have e2 : x % 9223372036854775808 = x := by omega
  have hx : double.read x = .number false (4503599627370496 + x % 4503599627370496) (-1074 + ((x / 4503599627370496 - 1 : Nat) : Int)) := by
    unfold Format.read
    simp only [g1, g2, g3, g4, e1, e2]
    rw [if_neg (by omega), if_pos h2]
    rfl
  have h0 : double.read 4607182418800017408 = .number false 4503599627370496 (-52) := by decide +kernel
  unfold Format.mul
  rw [hx, h0]
  show some (double.nearest (false ^^ false) (4503599627370496 * (4503599627370496 + x % 4503599627370496)) (-52 + (-1074 + ((x / 4503599627370496 - 1 : Nat) : Int)))) = some x
  have e3 : 4503599627370496 * (4503599627370496 + x % 4503599627370496) = (4503599627370496 + x % 4503599627370496) * 2 ^ 52 := by
    rw [Nat.mul_comm]
  rw [e3, show (false ^^ false) = false from rfl]
  rw [nearest_at (m := 4503599627370496 + x % 4503599627370496) (k := 52) (p := -1074 + ((x / 4503599627370496 - 1 : Nat) : Int)) (by omega) (by omega) (by omega) (by omega) (by omega)]
  exact congrArg some (by omega)
end Hb

/-
  The nearest float of an integer, as numbers. No program in sight.
-/
namespace Hb
/-- the 54 highest bits; whether one below is 1; rounded -/
def flV (a : Nat) : Nat := if 54 < blen a then a / 2 ^ (blen a - 54) else a * 2 ^ (54 - blen a)
def flLow (a : Nat) : Bool := decide (54 < blen a) && decide (a % 2 ^ (blen a - 54) ≠ 0)
def flUp (a : Nat) : Bool := decide (flV a % 2 = 1) && (flLow a || decide (flV a / 2 % 2 = 1))
def flTop (a : Nat) : Nat := flV a / 2 + (flUp a).toNat
def flInf (a : Nat) : Bool := decide (1024 < blen a) || decide ((blen a + 1021) * 4503599627370496 + flTop a = 9218868437227405312)
def flBits (a : Nat) : Nat := (blen a + 1021) * 4503599627370496 + flTop a
theorem flV_bounds {a : Nat} (h : a ≠ 0) : 9007199254740992 ≤ flV a ∧ flV a < 18014398509481984 := by
  obtain ⟨h1, h2⟩ := blen_bounds h
  have hp := blen_pos h
  unfold flV
  generalize blen a = n at *
  split
  · rename_i h3
    obtain ⟨k, rfl⟩ : ∃ k, n = k + 54 := ⟨n - 54, by omega⟩
    rw [show k + 54 - 54 = k by omega]
    have hk := Nat.two_pow_pos k
    constructor
    · refine (Nat.le_div_iff_mul_le hk).2 ?_
      rw [show k + 54 - 1 = 53 + k by omega, Nat.pow_add] at h1
      exact h1
    · refine (Nat.div_lt_iff_lt_mul hk).2 ?_
      rw [show k + 54 = 54 + k by omega, Nat.pow_add] at h2
      exact h2
  · rename_i h3
    obtain ⟨k, hk⟩ : ∃ k, 54 - n = k := ⟨_, rfl⟩
    rw [hk]
    have hk0 := Nat.two_pow_pos k
    constructor
    · have h4 : 2 ^ (n - 1) * 2 ^ k ≤ a * 2 ^ k := Nat.mul_le_mul_right _ h1
      rw [← Nat.pow_add, show n - 1 + k = 53 by omega] at h4
      exact h4
    · have h4 : a * 2 ^ k < 2 ^ n * 2 ^ k := Nat.mul_lt_mul_of_pos_right h2 hk0
      rw [← Nat.pow_add, show n + k = 54 by omega] at h4
      exact h4
theorem flTop_bounds {a : Nat} (h : a ≠ 0) : 4503599627370496 ≤ flTop a ∧ flTop a ≤ 9007199254740992 := by
  have := flV_bounds h
  unfold flTop
  cases flUp a <;> simp <;> omega
theorem flBits_le {a : Nat} (h : a ≠ 0) (hn : blen a ≤ 1024) : flBits a ≤ 9218868437227405312 ∧ 4503599627370496 ≤ flBits a := by
  have := flTop_bounds h
  unfold flBits
  omega
theorem flInf_zero : flInf 0 = false := by
  have e : blen 0 = 0 := blen_zero
  have ev : flV 0 = 0 := by unfold flV; rw [e]; simp
  have el : flLow 0 = false := by unfold flLow; rw [e]; rfl
  have eu : flUp 0 = false := by unfold flUp; rw [ev, el]; rfl
  unfold flInf flTop
  rw [e, ev, eu]
  decide
end Hb
namespace Go.Proofs.Ytggdmhkdmkldoaa
open Hb
/-- what ToFloat answers -/
def tfC (x : Int) : Int := if tooLong x then 10 else if flInf x.natAbs then 14 else 0
def tfB (x : Int) : Nat := if tooLong x then 0 else if x = 0 then 0 else if flInf x.natAbs then 0 else flBits x.natAbs + (if x < 0 then 9223372036854775808 else 0)
end Go.Proofs.Ytggdmhkdmkldoaa

/-
  The nearest float of an integer and a float's integer part, as numbers: what the law BigintNear asks. No program in sight.
-/
namespace Hb
/-- the number that the nearest float of a number is -/
def flVal (a : Nat) : Nat := if 53 ≤ blen a then flTop a * 2 ^ (blen a - 53) else a
/-- the integer part of a float's magnitude -/
def ofN (f : Nat) : Nat :=
  if f / 4503599627370496 % 2048 = 0 then 0
  else if 1075 ≤ f / 4503599627370496 % 2048 then (4503599627370496 + f % 4503599627370496) * 2 ^ (f / 4503599627370496 % 2048 - 1075)
  else (4503599627370496 + f % 4503599627370496) / 2 ^ (1075 - f / 4503599627370496 % 2048)
theorem flTop_low {a : Nat} (h : blen a ≤ 53) : flTop a = a * 2 ^ (53 - blen a) := by
  have e1 : flV a = a * 2 ^ (54 - blen a) := by rw [flV, if_neg (by omega)]
  obtain ⟨k, hk⟩ : ∃ k, 53 - blen a = k := ⟨_, rfl⟩
  have e2 : flV a = a * 2 ^ k * 2 := by rw [e1, show 54 - blen a = k + 1 by omega, Nat.pow_succ, Nat.mul_assoc]
  have e3 : flUp a = false := by
    rw [flUp, decide_eq_false (by omega), Bool.false_and]
  rw [flTop, e3, hk, e2]
  simp
theorem flVal_low {a : Nat} (h : blen a ≤ 53) : flVal a = a := by
  unfold flVal
  split
  · rw [flTop_low h, show 53 - blen a = 0 by omega, show blen a - 53 = 0 by omega]; simp
  · rfl
/-- the parts of a number of at least 54 bits -/
theorem fl_parts {a m : Nat} (h : blen a = m + 54) : flV a = a / 2 ^ m ∧ flLow a = decide (a % 2 ^ m ≠ 0) := by
  unfold flV flLow
  rw [h]
  by_cases hm : m = 0
  · subst hm
    rw [if_neg (by omega), decide_eq_false (by omega)]
    simp [Nat.mod_one]
  · rw [if_pos (by omega), decide_eq_true (by omega), show m + 54 - 54 = m by omega]
    simp
theorem flVal_high {a m : Nat} (h : blen a = m + 54) : flVal a = flTop a * (2 * 2 ^ m) := by
  unfold flVal
  rw [h, if_pos (by omega), show m + 54 - 53 = m + 1 by omega, Nat.pow_succ, Nat.mul_comm (2 ^ m) 2]
theorem flVal_near {a m : Nat} (h : blen a = m + 54) : a ≤ flVal a + 2 ^ m ∧ flVal a ≤ a + 2 ^ m := by
  obtain ⟨e1, e2⟩ := fl_parts h
  rw [flVal_high h]
  have hp := Nat.two_pow_pos m
  have h1 := Nat.div_add_mod a (2 ^ m)
  have h2 := Nat.mod_lt a hp
  unfold flTop flUp
  rw [e2, e1]
  generalize 2 ^ m = u at *
  generalize a % u = L at *
  obtain ⟨q, hq⟩ : ∃ q, a / u / 2 = q := ⟨_, rfl⟩
  obtain ⟨r, hr⟩ : ∃ r, a / u % 2 = r := ⟨_, rfl⟩
  have h3 : a / u = 2 * q + r := by omega
  rw [hq, hr]
  rw [h3] at h1
  have h4 : u * (2 * q + r) = q * (2 * u) + u * r := by rw [Nat.mul_add, Nat.mul_left_comm, ← Nat.mul_assoc, Nat.mul_comm q]
  have h5 : (q + 1) * (2 * u) = q * (2 * u) + 2 * u := by rw [Nat.add_mul, Nat.one_mul]
  have hr2 : r = 0 ∨ r = 1 := by omega
  rcases hr2 with rfl | rfl
  · simp
    omega
  · by_cases hL : L ≠ 0
    · simp only [decide_eq_true hL, Bool.true_or, Bool.and_true, decide_true, Bool.toNat_true]
      omega
    · rw [decide_eq_false hL]
      by_cases hq2 : q % 2 = 1
      · simp only [decide_eq_true hq2, decide_true, Bool.or_true, Bool.and_true, Bool.toNat_true]
        omega
      · rw [decide_eq_false hq2]
        simp
        omega
theorem flVal_le {a : Nat} (h : a ≠ 0) : flVal a ≤ 2 ^ blen a ∧ 2 ^ (blen a - 1) ≤ flVal a := by
  obtain ⟨h1, h2⟩ := blen_bounds h
  have ht := flTop_bounds h
  unfold flVal
  split
  · rename_i h3
    obtain ⟨k, hk⟩ : ∃ k, blen a - 53 = k := ⟨_, rfl⟩
    rw [hk, show blen a = 53 + k by omega, show 53 + k - 1 = 52 + k by omega, Nat.pow_add, Nat.pow_add]
    exact ⟨Nat.mul_le_mul_right _ ht.2, Nat.mul_le_mul_right _ ht.1⟩
  · omega
theorem flVal_pos {a : Nat} (h : a ≠ 0) : flVal a ≠ 0 := by
  have := (flVal_le h).2
  have := Nat.two_pow_pos (blen a - 1)
  omega
theorem flVal_zero : flVal 0 = 0 := flVal_low (by rw [blen_zero]; omega)
theorem flVal_mono {a b : Nat} (h : a ≤ b) : flVal a ≤ flVal b := by
  by_cases ha : a = 0
  · subst ha; rw [flVal_zero]; omega
  have hb : b ≠ 0 := by omega
  have hn := blen_mono h
  rcases Nat.eq_or_lt_of_le hn with e | hlt
  · by_cases h53 : blen a ≤ 53
    · rw [flVal_low h53, flVal_low (by omega)]; exact h
    · obtain ⟨m, hm⟩ : ∃ m, blen a = m + 54 := ⟨blen a - 54, by omega⟩
      have hm2 : blen b = m + 54 := by omega
      rw [flVal_high hm, flVal_high hm2]
      refine Nat.mul_le_mul_right _ ?_
      obtain ⟨a1, a2⟩ := fl_parts hm
      obtain ⟨b1, b2⟩ := fl_parts hm2
      have hq := Nat.div_le_div_right (c := 2 ^ m) h
      have ea := Nat.div_add_mod a (2 ^ m)
      have eb := Nat.div_add_mod b (2 ^ m)
      unfold flTop flUp
      rw [a2, a1, b2, b1]
      generalize 2 ^ m = u at *
      generalize hA : a / u = A at *
      generalize hB : b / u = B at *
      rcases Nat.eq_or_lt_of_le hq with e2 | hlt2
      · subst e2
        have h7 : a % u ≤ b % u := by omega
        have h8 : decide (a % u ≠ 0) = true → decide (b % u ≠ 0) = true := by
          intro h9
          have := of_decide_eq_true h9
          exact decide_eq_true (by omega)
        cases h10 : decide (a % u ≠ 0)
        · cases decide (b % u ≠ 0) <;> cases decide (A % 2 = 1) <;> cases decide (A / 2 % 2 = 1) <;> simp
        · rw [h8 h10]; exact Nat.le_refl _
      · rcases Nat.lt_or_ge (A / 2) (B / 2) with h9 | h9
        · have h11 : (decide (A % 2 = 1) && (decide (a % u ≠ 0) || decide (A / 2 % 2 = 1))).toNat ≤ 1 := by
            cases (decide (A % 2 = 1) && (decide (a % u ≠ 0) || decide (A / 2 % 2 = 1))) <;> simp
          generalize (decide (B % 2 = 1) && (decide (b % u ≠ 0) || decide (B / 2 % 2 = 1))).toNat = t at *
          omega
        · rw [decide_eq_false (show ¬ A % 2 = 1 by omega), Bool.false_and]
          generalize (decide (B % 2 = 1) && (decide (b % u ≠ 0) || decide (B / 2 % 2 = 1))).toNat = t at *
          simp
          omega
  · have h1 := (flVal_le ha).1
    have h2 := (flVal_le hb).2
    have h3 : 2 ^ blen a ≤ 2 ^ (blen b - 1) := Nat.pow_le_pow_right (by decide) (by omega)
    omega
/-- the nearest float's integer part -/
theorem ofN_bits {a : Nat} (h : a ≠ 0) (hn : blen a ≤ 1023) : ofN (flBits a) = flVal a := by
  have ht := flTop_bounds h
  have hp := blen_pos h
  unfold ofN flBits
  rcases Nat.lt_or_ge (flTop a) 9007199254740992 with h1 | h1
  · have e1 : ((blen a + 1021) * 4503599627370496 + flTop a) / 4503599627370496 % 2048 = blen a + 1022 := by omega
    have e2 : 4503599627370496 + ((blen a + 1021) * 4503599627370496 + flTop a) % 4503599627370496 = flTop a := by omega
    rw [e1, e2, if_neg (by omega)]
    split
    · rename_i h2
      rw [flVal, if_pos (by omega), show blen a + 1022 - 1075 = blen a - 53 by omega]
    · rename_i h2
      rw [flVal_low (by omega), flTop_low (by omega), show 1075 - (blen a + 1022) = 53 - blen a by omega, Nat.mul_div_cancel _ (Nat.two_pow_pos _)]
  · have e0 : flTop a = 9007199254740992 := by omega
    have h53 : 53 ≤ blen a := by
      rcases Nat.lt_or_ge (blen a) 53 with h2 | h2
      · exfalso
        have h3 := flTop_low (a := a) (by omega)
        have h4 := (blen_bounds h).2
        have h5 : a * 2 ^ (53 - blen a) < 2 ^ blen a * 2 ^ (53 - blen a) := Nat.mul_lt_mul_of_pos_right h4 (Nat.two_pow_pos _)
        rw [← Nat.pow_add, show blen a + (53 - blen a) = 53 by omega] at h5
        omega
      · exact h2
    have e1 : ((blen a + 1021) * 4503599627370496 + flTop a) / 4503599627370496 % 2048 = blen a + 1023 := by omega
    have e2 : 4503599627370496 + ((blen a + 1021) * 4503599627370496 + flTop a) % 4503599627370496 = 4503599627370496 := by omega
    rw [e1, e2, if_neg (by omega), flVal, if_pos h53, e0]
    obtain ⟨k, hk⟩ : ∃ k, blen a - 53 = k := ⟨_, rfl⟩
    rw [hk, if_pos (by omega), show blen a + 1023 - 1075 = k + 1 by omega, Nat.pow_succ, Nat.mul_comm (2 ^ k) 2, ← Nat.mul_assoc]
/-- .. and the nearest float of it again -/
theorem flBits_again {a : Nat} (h : a ≠ 0) : flBits (flVal a) = flBits a := by
  by_cases h53 : blen a ≤ 53
  · rw [flVal_low h53]
  · obtain ⟨m, hm⟩ : ∃ m, blen a = m + 54 := ⟨blen a - 54, by omega⟩
    have ht := flTop_bounds h
    have hp := Nat.two_pow_pos m
    obtain ⟨t, hT⟩ : ∃ t, flTop a = t := ⟨_, rfl⟩
    have hv := flVal_high hm
    rw [hT] at ht hv
    rcases Nat.lt_or_ge t 9007199254740992 with h1 | h1
    · have hb : blen (flVal a) = m + 54 := by
        rw [hv]
        refine blen_eq_of (k := m + 53) ?_ ?_
        · rw [show m + 53 = 52 + (m + 1) by omega, Nat.pow_add, Nat.pow_succ 2 m, Nat.mul_comm (2 ^ m) 2]
          exact Nat.mul_le_mul_right _ ht.1
        · rw [show m + 53 + 1 = 53 + (m + 1) by omega, Nat.pow_add, Nat.pow_succ 2 m, Nat.mul_comm (2 ^ m) 2]
          exact Nat.mul_lt_mul_of_pos_right h1 (by omega)
      obtain ⟨e1, e2⟩ := fl_parts hb
      have e3 : flVal a / 2 ^ m = 2 * t := by
        rw [hv, ← Nat.mul_assoc, Nat.mul_div_cancel _ hp, Nat.mul_comm]
      have e4 : flVal a % 2 ^ m = 0 := by rw [hv, ← Nat.mul_assoc]; exact Nat.mul_mod_left _ _
      have e5 : flTop (flVal a) = t := by
        unfold flTop flUp
        rw [e1, e2, e3, e4]
        rw [decide_eq_false (show ¬ 2 * t % 2 = 1 by omega), Bool.false_and]
        simp
      rw [flBits, flBits, hb, e5, hm, hT]
    · have e0 : t = 9007199254740992 := by omega
      have hv2 : flVal a = 2 ^ (m + 54) := by
        rw [hv, e0, show m + 54 = 53 + (m + 1) by omega, Nat.pow_add, Nat.pow_succ 2 m, Nat.mul_comm (2 ^ m) 2]
      have hb : blen (flVal a) = m + 1 + 54 := by
        rw [hv2]
        exact blen_eq_of (k := m + 54) (Nat.le_refl _) (Nat.pow_lt_pow_right (by decide) (by omega))
      obtain ⟨e1, e2⟩ := fl_parts hb
      have e3 : flVal a / 2 ^ (m + 1) = 9007199254740992 := by
        rw [hv2, show m + 54 = 53 + (m + 1) by omega, Nat.pow_add, Nat.mul_div_cancel _ (Nat.two_pow_pos _)]
      have e4 : flVal a % 2 ^ (m + 1) = 0 := by rw [hv2, show m + 54 = 53 + (m + 1) by omega, Nat.pow_add]; exact Nat.mul_mod_left _ _
      have e5 : flTop (flVal a) = 4503599627370496 := by
        unfold flTop flUp
        rw [e1, e2, e3, e4]
        decide
      rw [flBits, flBits, hb, e5, hm, hT, e0]
      omega
end Hb

/-
  What the law BigintNear asks of the nearest float, as integers. No program in sight.
-/
namespace Go.Proofs.Ytggdmhkdmkldoaa
open Hb
/-- the integer part of a float of some bits -/
def ofZ (f : Nat) : Int := if f < 9223372036854775808 then (ofN f : Int) else -(ofN f : Int)
/-- the integer that the nearest float of an integer is -/
def nrZ (x : Int) : Int := if x < 0 then -(flVal x.natAbs : Int) else (flVal x.natAbs : Int)
theorem nrZ_abs (x : Int) : (nrZ x).natAbs = flVal x.natAbs := by unfold nrZ; split <;> omega
theorem ofN_sign {f : Nat} : ofN (f + 9223372036854775808) = ofN f := by
  unfold ofN
  rw [show (f + 9223372036854775808) / 4503599627370496 % 2048 = f / 4503599627370496 % 2048 by omega, show (f + 9223372036854775808) % 4503599627370496 = f % 4503599627370496 by omega]
theorem flBits_lt {a : Nat} (h : a ≠ 0) (hn : blen a ≤ 1023) : flBits a < 9218868437227405312 := by
  have := flTop_bounds h
  unfold flBits
  omega
theorem flInf_no {a : Nat} (hn : blen a ≤ 1023) : flInf a = false := by
  by_cases h : a = 0
  · subst h; exact flInf_zero
  · have h1 := flBits_lt h hn
    unfold flInf
    unfold flBits at h1
    rw [decide_eq_false (show ¬ 1024 < blen a by omega), decide_eq_false (show ¬ _ by omega)]
    rfl
theorem tfB_ne {x : Int} (ht : tooLong x = false) (h : x ≠ 0) (hn : blen x.natAbs ≤ 1023) : tfB x = flBits x.natAbs + (if x < 0 then 9223372036854775808 else 0) := by
  unfold tfB
  rw [ht, if_neg (by simp), if_neg h, flInf_no hn, if_neg (by simp)]
theorem tfB_zero : tfB 0 = 0 := by
  unfold tfB
  split
  · rfl
  · rw [if_pos rfl]
/-- the integer part of the nearest float -/
theorem ofZ_tfB {x : Int} (ht : tooLong x = false) (hn : blen x.natAbs ≤ 1023) : ofZ (tfB x) = nrZ x := by
  by_cases h : x = 0
  · subst h
    rw [tfB_zero]
    have e : flVal (Int.natAbs 0) = 0 := flVal_zero
    unfold ofZ nrZ
    rw [e]
    have e2 : ofN 0 = 0 := by unfold ofN; rw [if_pos (by decide)]
    rw [e2]
    rfl
  · have hx : x.natAbs ≠ 0 := by omega
    have h1 := flBits_lt hx hn
    rw [tfB_ne ht h hn]
    unfold ofZ nrZ
    by_cases hs : x < 0
    · rw [if_pos hs, if_neg (by omega), if_pos hs, ofN_sign, ofN_bits hx hn]
    · rw [if_neg hs, if_pos (by omega), if_neg hs, Nat.add_zero, ofN_bits hx hn]
theorem nrZ_lt {x : Int} : nrZ x < 0 ↔ x < 0 := by
  unfold nrZ
  by_cases h : x < 0
  · have h1 := flVal_pos (a := x.natAbs) (by omega)
    rw [if_pos h]; omega
  · rw [if_neg h]; omega
theorem nrZ_zero {x : Int} : nrZ x = 0 ↔ x = 0 := by
  have h := nrZ_abs x
  constructor
  · intro h0
    rw [h0] at h
    by_cases hx : x = 0
    · exact hx
    · exact absurd h.symm (flVal_pos (by omega))
  · rintro rfl
    have e : flVal (Int.natAbs 0) = 0 := flVal_zero
    omega
theorem blen_two_pow (k : Nat) : blen (2 ^ k) = k + 1 := blen_eq_of (Nat.le_refl _) (Nat.pow_lt_pow_right (by decide) (by omega))
theorem nrZ_blen {x : Int} {k : Nat} (hn : blen x.natAbs ≤ k) : blen (nrZ x).natAbs ≤ k + 1 := by
  rw [nrZ_abs]
  by_cases hx : x.natAbs = 0
  · rw [hx, flVal_zero, blen_zero]; omega
  · have h1 := (flVal_le hx).1
    have h2 := blen_mono h1
    rw [blen_two_pow] at h2
    omega
theorem tooLong_blen {x : Int} {k : Nat} (h : blen x.natAbs ≤ k) (hk : k ≤ 4096) : tooLong x = false := by
  unfold tooLong
  exact decide_eq_false (by omega)
/-- .. is its own nearest float -/
theorem tfB_again {x : Int} (hn : blen x.natAbs ≤ 1022) : tfB (nrZ x) = tfB x := by
  have hb := nrZ_blen hn
  by_cases h : x = 0
  · subst h
    rw [show nrZ 0 = 0 from nrZ_zero.2 rfl]
  · have hx : x.natAbs ≠ 0 := by omega
    have hz : nrZ x ≠ 0 := fun e => h (nrZ_zero.1 e)
    rw [tfB_ne (tooLong_blen hb (by decide)) hz (by omega), tfB_ne (tooLong_blen hn (by decide)) h (by omega), nrZ_abs, flBits_again hx]
    by_cases hs : x < 0
    · rw [if_pos hs, if_pos (nrZ_lt.2 hs)]
    · rw [if_neg hs, if_neg (fun e => hs (nrZ_lt.1 e))]
/-- how far it lies -/
theorem nrZ_near_low {x : Int} (hn : blen x.natAbs ≤ 53) : (x - nrZ x).natAbs = 0 := by
  have h := flVal_low hn
  unfold nrZ
  split <;> omega
theorem nrZ_near {x : Int} {m : Nat} (hn : blen x.natAbs = m + 54) : (x - nrZ x).natAbs ≤ 2 ^ m := by
  have h := flVal_near hn
  unfold nrZ
  split <;> omega
theorem nrZ_mono {x y : Int} (h : x ≤ y) : nrZ x ≤ nrZ y := by
  unfold nrZ
  by_cases hx : x < 0
  · by_cases hy : y < 0
    · rw [if_pos hx, if_pos hy]
      have := flVal_mono (a := y.natAbs) (b := x.natAbs) (by omega)
      omega
    · rw [if_pos hx, if_neg hy]; omega
  · rw [if_neg hx, if_neg (by omega)]
    have := flVal_mono (a := x.natAbs) (b := y.natAbs) (by omega)
    omega
theorem nrZ_order (x y : Int) : cmpZ (nrZ x) (nrZ y) = cmpZ x y ∨ cmpZ (nrZ x) (nrZ y) = 0 := by
  rcases Int.lt_trichotomy x y with h | h | h
  · have h1 := nrZ_mono (Int.le_of_lt h)
    rcases Int.lt_or_eq_of_le h1 with h2 | h2
    · exact .inl (by rw [cmpZ_lt h, cmpZ_lt h2])
    · exact .inr (by rw [h2]; simp [cmpZ])
  · subst h; exact .inr (by simp [cmpZ])
  · have h1 := nrZ_mono (Int.le_of_lt h)
    rcases Int.lt_or_eq_of_le h1 with h2 | h2
    · exact .inl (by rw [cmpZ_gt h, cmpZ_gt h2])
    · exact .inr (by rw [h2]; simp [cmpZ])
theorem nrZ_diff {x : Int} {k : Nat} (hn : blen x.natAbs ≤ k) : (x - nrZ x).natAbs < 2 ^ (k + 2) := by
  have h1 := blen_le_iff.1 hn
  have h2 := blen_le_iff.1 (nrZ_blen hn)
  have h3 := Int.natAbs_sub_le x (nrZ x)
  have h4 : 2 ^ k ≤ 2 ^ (k + 1) := Nat.pow_le_pow_right (by decide) (by omega)
  rw [Nat.pow_succ 2 (k + 1)]
  omega
end Go.Proofs.Ytggdmhkdmkldoaa

import Derived.Test.YtgfeainpeplphaaDoorIa
import Derived.Test.YtgfeainpeplphaaDoorIb
import Derived.Shelf.Small.Bits
import Derived.Test.YtgfeainpeplphaaDoorRows
import Derived.Test.YtgfeainpeplphaaDoorMem
import Derived.WalkKit
import Derived.Deep.QuietTactic
import Derived.BigQuiet
import Derived.Deep.RegionHeld3
import Derived.Deep.DrawnRows
import Derived.Test.YtgfeainpeplphaaDoorMath
import Derived.Deep.DeepCutAuto
import Derived.Deep.CutBlock
import Derived.Test.YtgfeainpeplphaaDoorReg
import Derived.Laws.BytesArg
import Derived.Laws.AppendOwnNone
import Derived.ProofKit
import Derived.OpenShut
import Derived.JoinedCond
import Derived.JoinedOf
import Derived.JoinedAt
import Derived.ChangeSame
import Derived.ChangeSlices
import Derived.RowKit3
import Derived.Carry
import Derived.Lib.SmallJoins
import Derived.Deep.LoopGhost
import Derived.Maps.AppendAt
import Derived.IntWalk
import Derived.StillTailTactics
import Derived.Laws.Cover2
import Derived.Laws.FloatArith
namespace Go.Proofs.YtgfeainpeplphaaDoor
open Go.RowKit Hb
end Go.Proofs.YtgfeainpeplphaaDoor
namespace Go.Proofs.YtgfeainpeplphaaDoor
open Go.RowKit Hb
end Go.Proofs.YtgfeainpeplphaaDoor
namespace Go.Proofs.YtgfeainpeplphaaDoor
open Go.ChangeShapes Go.WideShapes Go.ChangeAt Go.RowKit Go.Joins Hb
section
variable {H : Type} {enc : TypeId × Value → H} {P : Program}
end
end Go.Proofs.YtgfeainpeplphaaDoor
namespace Go.Proofs.YtgfeainpeplphaaDoor
open Go.RowKit Hb
section
variable {w0 w w' : World} {vs : List VE} {v : VE}
end
section
variable {w0 w w' : World} {vs : List VE} {v : VE}
end
end Go.Proofs.YtgfeainpeplphaaDoor
namespace Go.Proofs.YtgfeainpeplphaaDoor
open Go.RowKit Hb
theorem lng_ival {neg : Bool} {l : List Nat} {z : Int} (h : ival neg l = z) : lng l = tooLong z := by
  rw [lng, tooLong, ← h, ival_natAbs]
section
variable {w : World} {A A' : Option Addr} {n c n' c' : Nat} {l m : List Nat} {na nb : Bool} {x y z : Int}
end
end Go.Proofs.YtgfeainpeplphaaDoor
namespace Go.Proofs.YtgfeainpeplphaaDoor
open Go.RowKit Hb
section
variable {w : World} {A A' : Option Addr} {n c n' c' : Nat} {l m : List Nat} {na nb : Bool} {x y z1 z2 : Int}
end
end Go.Proofs.YtgfeainpeplphaaDoor
namespace Go.Proofs.YtgfeainpeplphaaDoor
open Go.RowKit Hb
theorem txt_same {na nb : Bool} {r m n : Nat} (h : (if na then -(m : Int) else (m : Int)) = (if nb then -(n : Int) else n)) : txtL na r m = txtL nb r n := by
  have hmn : m = n := by cases na <;> cases nb <;> simp at h <;> omega
  subst hmn
  by_cases h0 : m = 0
  · subst h0; rfl
  · have : na = nb := by cases na <;> cases nb <;> simp at h ⊢ <;> omega
    rw [this]
theorem ival_if (neg : Bool) (l : List Nat) : ival neg l = if neg then -(nv W l : Int) else (nv W l : Int) := rfl
theorem txtZ_eq {neg : Bool} {l : List Nat} {z : Int} (h : ival neg l = z) (r : Nat) : txtL neg r (nv W l) = txtZ z r := by
  refine txt_same ?_
  rw [← ival_if, h]
  by_cases hz : z < 0
  · rw [if_pos (by simpa using hz)]; omega
  · rw [if_neg (by simpa using hz)]; omega
def TextQ (w : World) (s : ByteArray) (e : Ending) (w' : World) : Prop := e = .returned (.tuple #[.string s, .int .i64 0]) ∧ Below w.heap.size w w'
theorem Text_z {w : World} {A : Option Addr} {n c : Nat} {l : List Nat} {neg : Bool} {z : Int} {r : Nat} {R : Int} {s : ByteArray} (hR : R = (r : Int)) (hr : 2 ≤ r) (hr2 : r ≤ 36) (hs : SlU w w.heap.size A n c l) (hn : n ≤ 1000) (hx : ival neg l = z) (t1 : tooLong z = false) (hq : strN (txtZ z r) = s) :
    Calls Tryd.prog 92 #[.agg #[.bool neg, .slice A n c], .int .i64 R] w (TextQ w s) := by
  subst hR
  have h := Text_any neg hs (by omega) (Nat.le_refl _) (r : Int)
  rw [lng_ival hx, t1, tList, tCode, if_neg (by simp), if_neg (by omega), if_neg (by simp), if_neg (by omega), Int.toNat_natCast, txtZ_eq hx] at h
  rw [← hq]
  exact h
end Go.Proofs.YtgfeainpeplphaaDoor
namespace Go.Proofs.YtgfeainpeplphaaDoor
open Go.RowKit Hb
end Go.Proofs.YtgfeainpeplphaaDoor
namespace Go.Proofs.YtgfeainpeplphaaDoor
open Go.RowKit Hb
section
variable {P : Program} {ops : Array Oper} {Q : Exit → Act → World → Prop} {md : Region.Mode} {S : World → Prop} {st : Nat}
end
end Go.Proofs.YtgfeainpeplphaaDoor
namespace Hb
open Ieee
/-- the exact value of a rung, in units of the least place -/
def rv (r : Nat) : Nat := if r < 2 ^ 52 then r else (2 ^ 52 + r % 2 ^ 52) * 2 ^ (r / 2 ^ 52 - 1)
theorem rv_lt {r s : Nat} (h : r < s) : rv r < rv s := by
  unfold rv
  by_cases hr : r < 2 ^ 52
  · rw [if_pos hr]
    by_cases hs : s < 2 ^ 52
    · rw [if_pos hs]; exact h
    · rw [if_neg hs]
      have h1 : 1 ≤ 2 ^ (s / 2 ^ 52 - 1) := Nat.one_le_two_pow
      have h2 : (2 ^ 52 + s % 2 ^ 52) * 1 ≤ (2 ^ 52 + s % 2 ^ 52) * 2 ^ (s / 2 ^ 52 - 1) := Nat.mul_le_mul_left _ h1
      omega
  · have hs : ¬ s < 2 ^ 52 := by omega
    rw [if_neg hr, if_neg hs]
    have hq : r / 2 ^ 52 ≤ s / 2 ^ 52 := Nat.div_le_div_right (Nat.le_of_lt h)
    rcases Nat.eq_or_lt_of_le hq with e | hlt
    · rw [e]
      refine Nat.mul_lt_mul_of_pos_right ?_ (Nat.two_pow_pos _)
      have h1 := Nat.div_add_mod r (2 ^ 52)
      have h2 := Nat.div_add_mod s (2 ^ 52)
      rw [e] at h1
      omega
    · have h1 : r % 2 ^ 52 < 2 ^ 52 := Nat.mod_lt _ (by decide)
      have hr1 : 1 ≤ r / 2 ^ 52 := (Nat.le_div_iff_mul_le (by decide)).2 (by omega)
      generalize r / 2 ^ 52 = a at *
      generalize s / 2 ^ 52 = b at *
      have h2 : 2 * 2 ^ (a - 1) ≤ 2 ^ (b - 1) := by
        rw [Nat.mul_comm, ← Nat.pow_succ]
        exact Nat.pow_le_pow_right (by decide) (by omega)
      have h3 : (2 ^ 52 + r % 2 ^ 52) * 2 ^ (a - 1) < (2 ^ 52 * 2) * 2 ^ (a - 1) := Nat.mul_lt_mul_of_pos_right (by omega) (Nat.two_pow_pos _)
      have h4 : 2 ^ 52 * (2 * 2 ^ (a - 1)) ≤ 2 ^ 52 * 2 ^ (b - 1) := Nat.mul_le_mul_left _ h2
      have h5 : 2 ^ 52 * 2 ^ (b - 1) ≤ (2 ^ 52 + s % 2 ^ 52) * 2 ^ (b - 1) := Nat.mul_le_mul_right _ (by omega)
      rw [Nat.mul_assoc] at h3
      omega
theorem rv_inj {r s : Nat} : (rv r < rv s ↔ r < s) := by
  constructor
  · intro h
    rcases Nat.lt_trichotomy r s with h1 | h1 | h1
    · exact h1
    · subst h1; omega
    · have := rv_lt h1; omega
  · exact rv_lt
/-- a finite word of no sign reads as a number; its magnitude and place -/
theorem read_pos {r : Nat} (h : r < 9218868437227405312) : ∃ m p, double.read r = .number false m p ∧ (-1074 : Int) ≤ p ∧ m * 2 ^ (p + 1074).toNat = rv r := by
  have h1 : double.signWeight = 9223372036854775808 := rfl
  have h2 : double.binade = 4503599627370496 := rfl
  have h3 : double.infRung = 9218868437227405312 := rfl
  have h4 : double.leastPlace = -1074 := rfl
  have e1 : r / 9223372036854775808 % 2 = 0 := by omega
  have e2 : r % 9223372036854775808 = r := by omega
  unfold Format.read
  simp only [h1, h2, h3, h4, e1, e2]
  unfold rv
  by_cases hr : r < 4503599627370496
  · rw [if_pos hr, if_pos (show r < 2 ^ 52 from hr)]
    exact ⟨r, -1074, rfl, Int.le_refl _, by simp⟩
  · rw [if_neg hr, if_pos h, if_neg (show ¬ r < 2 ^ 52 from hr)]
    refine ⟨_, _, rfl, by omega, ?_⟩
    have e3 : (-1074 + ((r / 4503599627370496 - 1 : Nat) : Int) + 1074).toNat = r / 4503599627370496 - 1 := by omega
    rw [e3]
theorem signed_pos (m u : Nat) : signed false m u = ((m * 2 ^ u : Nat) : Int) := by
  rw [signed, if_neg (by simp), Nat.shiftLeft_eq]
theorem order_pos {x y : Nat} (hx : x < 9218868437227405312) (hy : y < 9218868437227405312) : double.order x y = some (compare x y) := by
  obtain ⟨m, p, e1, hp, hm⟩ := read_pos hx
  obtain ⟨n, q, e2, hq, hn⟩ := read_pos hy
  unfold Format.order
  rw [e1, e2]
  show some (compare (signed false m (p - min p q).toNat) (signed false n (q - min p q).toNat)) = _
  congr 1
  rw [signed_pos, signed_pos]
  obtain ⟨b, hb⟩ : ∃ b : Nat, (min p q + 1074) = (b : Int) := ⟨(min p q + 1074).toNat, by omega⟩
  have k1 : m * 2 ^ (p - min p q).toNat * 2 ^ b = rv x := by
    rw [← hm, Nat.mul_assoc, ← Nat.pow_add]
    congr 2
    omega
  have k2 : n * 2 ^ (q - min p q).toNat * 2 ^ b = rv y := by
    rw [← hn, Nat.mul_assoc, ← Nat.pow_add]
    congr 2
    omega
  generalize m * 2 ^ (p - min p q).toNat = M at *
  generalize n * 2 ^ (q - min p q).toNat = N at *
  have hpos := Nat.two_pow_pos b
  have hlt : (M < N ↔ x < y) := by
    rw [← rv_inj (r := x) (s := y), ← k1, ← k2]
    constructor
    · intro h; exact Nat.mul_lt_mul_of_pos_right h hpos
    · intro h; exact Nat.lt_of_mul_lt_mul_right h
  have hgt : (N < M ↔ y < x) := by
    rw [← rv_inj (r := y) (s := x), ← k1, ← k2]
    constructor
    · intro h; exact Nat.mul_lt_mul_of_pos_right h hpos
    · intro h; exact Nat.lt_of_mul_lt_mul_right h
  rcases Nat.lt_trichotomy x y with h | h | h
  · rw [Nat.compare_eq_lt.2 h]
    have := hlt.2 h
    exact Int.compare_eq_lt.2 (by omega)
  · have h1 : M = N := by
      rcases Nat.lt_trichotomy M N with h2 | h2 | h2
      · have := hlt.1 h2; omega
      · exact h2
      · have := hgt.1 h2; omega
    rw [Nat.compare_eq_eq.2 h]
    exact Int.compare_eq_eq.2 (by omega)
  · rw [Nat.compare_eq_gt.2 h]
    have := hgt.2 h
    exact Int.compare_eq_gt.2 (by omega)
theorem order_lt {x y : Nat} (hy : y < 9218868437227405312) (h : x < y) : double.order x y = some .lt := by
  rw [order_pos (by omega) hy, Nat.compare_eq_lt.2 h]
theorem order_self {x : Nat} (hx : x < 9218868437227405312) : double.order x x = some .eq := by
  rw [order_pos hx hx, Nat.compare_eq_eq.2 rfl]
end Hb
namespace Hb
end Hb
namespace Go.Proofs.YtgfeainpeplphaaDoor
open Hb
end Go.Proofs.YtgfeainpeplphaaDoor
namespace Hb
end Hb
namespace Go.Proofs.YtgfeainpeplphaaDoor
open Hb
end Go.Proofs.YtgfeainpeplphaaDoor
namespace Go.Proofs.YtgfeainpeplphaaDoor
open Go.RowKit Hb
set_option linter.unusedVariables false
set_option linter.unusedSimpArgs false
theorem ofInt64 {a : Nat} (ha : a < 18446744073709551616) : (BitVec.ofInt 64 (a : Int)).toNat = a := by
  rw [BitVec.toNat_ofInt]
  omega
theorem u64_wrap {p : Nat} (h : p < 18446744073709551616) : IntKind.u64.wrap (p : Int) = (p : Int) := IntWalk.u64_in _ (by omega)
theorem bits_andNot_u64 (a b : Nat) (ha : a < 18446744073709551616) (hb : b < 18446744073709551616) : bits .andNot .u64 (a : Int) (b : Int) = ((a &&& (18446744073709551615 - b) : Nat) : Int) := by
  unfold bits
  show IntKind.u64.wrap ((BitVec.ofInt 64 (a : Int) &&& ~~~ BitVec.ofInt 64 (b : Int)).toNat : Int) = _
  rw [BitVec.toNat_and, BitVec.toNat_not, ofInt64 ha, ofInt64 hb, u64_wrap (Nat.lt_of_le_of_lt Nat.and_le_left ha)]
theorem and_low (a k : Nat) : a &&& (2 ^ k - 1) = a % 2 ^ k := Nat.and_two_pow_sub_one_eq_mod a k
theorem clear_sign {F : Nat} (h : F < 9223372036854775808) : bits .andNot .u64 (F : Int) 9223372036854775808 = (F : Int) := by
  have h1 := bits_andNot_u64 F 9223372036854775808 (by omega) (by decide)
  rw [show ((9223372036854775808 : Nat) : Int) = 9223372036854775808 from rfl] at h1
  rw [h1, show 18446744073709551615 - 9223372036854775808 = 2 ^ 63 - 1 from rfl, and_low, Nat.mod_eq_of_lt h]
theorem run_bits (F : Nat) (w : World) : (callFunc 101 #[.float .f64 F]).run Tryd.prog w = .ok (.value (.int .u64 (F : Int))) w := by kernel_rfl
theorem run_frombits (F : Nat) (w : World) : (callFunc 83 #[.int .u64 (F : Int)]).run Tryd.prog w = .ok (.value (.float .f64 F)) w := by kernel_rfl
set_option maxRecDepth 100000 in
theorem Abs_any (F : Nat) (hF : F < 9223372036854775808) (w : World) :
    Calls Tryd.prog 93 #[.float .f64 F] w fun e w' => e = .returned (.float .f64 F) ∧ w = w' := by
  have hb := run_bits F
  have hb2 := run_frombits F
  have hb3 := clear_sign hF
  go_enter Tryd.func93, Tryd.ntmps93
  go_wp2
  go_ret
  exact ⟨rfl, rfl⟩
set_option maxRecDepth 100000 in
theorem IsNaN_any (F : Nat) (hF : F < 9218868437227405312) (w : World) :
    Calls Tryd.prog 84 #[.float .f64 F] w fun e w' => e = .returned (.bool false) ∧ w = w' := by
  have ho : FloatKind.f64.format.order F F = some .eq := order_self hF
  go_enter Tryd.func84, Tryd.ntmps84
  go_wp2
  go_ret
  exact ⟨rfl, rfl⟩
theorem order_inf (F : Nat) (hF : F ≤ 9218868437227405312) : (FloatKind.f64.format.order F 9218868437227405311 == some .gt) = decide (F = 9218868437227405312) := by
  by_cases h : F = 9218868437227405312
  · subst h; decide +kernel
  · rw [decide_eq_false h]
    have h1 : F < 9218868437227405312 := by omega
    rcases Nat.lt_or_ge F 9218868437227405311 with h2 | h2
    · rw [show FloatKind.f64.format.order F 9218868437227405311 = some .lt from order_lt (by decide) h2]; rfl
    · obtain rfl : F = 9218868437227405311 := by omega
      rw [show FloatKind.f64.format.order 9218868437227405311 9218868437227405311 = some .eq from order_self h1]; rfl
set_option maxRecDepth 100000 in
theorem IsInf_any (F : Nat) (hF : F ≤ 9218868437227405312) {b : Bool} (hb : decide (F = 9218868437227405312) = b) (w : World) :
    Calls Tryd.prog 85 #[.float .f64 F, .int .i64 0] w fun e w' => e = .returned (.bool b) ∧ w = w' := by
  have ho := order_inf F hF
  rw [hb] at ho
  have HA := Lib.hid (Abs_any F (by omega))
  clear hb
  go_enter Tryd.func85, Tryd.ntmps85
  go_wp2_with fail
  refine (HA.out _).mono ?_
  rintro ex w5 ⟨rfl, rfl⟩
  go_wp2
  go_ret
  exact ⟨rfl, rfl⟩
end Go.Proofs.YtgfeainpeplphaaDoor
namespace Go.Proofs.YtgfeainpeplphaaDoor
open Go.RowKit Hb
set_option linter.unusedVariables false
set_option linter.unusedSimpArgs false
end Go.Proofs.YtgfeainpeplphaaDoor
namespace Go.Proofs.YtgfeainpeplphaaDoor
open Go.RowKit Hb
set_option linter.unusedVariables false
set_option linter.unusedSimpArgs false
end Go.Proofs.YtgfeainpeplphaaDoor
namespace Go.Proofs.YtgfeainpeplphaaDoor
open Go.RowKit Hb
set_option linter.unusedVariables false
set_option linter.unusedSimpArgs false
section
variable {w : World} {A : Option Addr} {n c : Nat} {l : List Nat} {na : Bool} {x z : Int}
end
end Go.Proofs.YtgfeainpeplphaaDoor

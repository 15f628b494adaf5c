import Derived.Test.YtggdmhkdmkldoaaBx
namespace Go.Proofs.Ytggdmhkdmkldoaa
open Go.RowKit Hb

/-- a digit's value -/
def dval (c : Nat) : Nat := if 48 ≤ c ∧ c ≤ 57 then c - 48 else if 97 ≤ c ∧ c ≤ 122 then c - 87 else if 65 ≤ c ∧ c ≤ 90 then c - 55 else 99
theorem dval_lt {c : Nat} : dval c ≤ 99 := by unfold dval; split <;> (try split) <;> (try split) <;> omega
set_option maxHeartbeats 400000 in
theorem value_any (c : Nat) (w : World) (hc : c < 256) : Calls Try.prog 74 #[.int .u8 (c : Int)] w fun e w' => e = .returned (.int .i64 (dval c : Nat)) ∧ w = w' := by
  have key : (c < 48) ∨ (48 ≤ c ∧ c ≤ 57) ∨ (58 ≤ c ∧ c < 65) ∨ (65 ≤ c ∧ c ≤ 90) ∨ (91 ≤ c ∧ c < 97) ∨ (97 ≤ c ∧ c ≤ 122) ∨ (123 ≤ c) := by omega
  rcases key with h | h | h | h | h | h | h
  · have HD := Lib.hid (show dval c = 99 by simp only [dval]; repeat (first | rw [if_pos (by omega)] | rw [if_neg (by omega)]))
    have : decide ((48 : Int) ≤ (c : Int)) = false := decide_eq_false (by omega)
    have : decide ((c : Int) ≤ 57) = true := decide_eq_true (by omega)
    have : decide ((97 : Int) ≤ (c : Int)) = false := decide_eq_false (by omega)
    have : decide ((c : Int) ≤ 122) = true := decide_eq_true (by omega)
    have : decide ((65 : Int) ≤ (c : Int)) = false := decide_eq_false (by omega)
    have : decide ((c : Int) ≤ 90) = true := decide_eq_true (by omega)
    rw [HD.out]
    go_enter Try.func74, Try.ntmps74
    go_wp2
    go_ret
    exact ⟨ret_int (by omega), rfl⟩
  · have HD := Lib.hid (show dval c = c - 48 by simp only [dval]; repeat (first | rw [if_pos (by omega)] | rw [if_neg (by omega)]))
    have : decide ((48 : Int) ≤ (c : Int)) = true := decide_eq_true (by omega)
    have : decide ((c : Int) ≤ 57) = true := decide_eq_true (by omega)
    have : decide ((97 : Int) ≤ (c : Int)) = false := decide_eq_false (by omega)
    have : decide ((c : Int) ≤ 122) = true := decide_eq_true (by omega)
    have : decide ((65 : Int) ≤ (c : Int)) = false := decide_eq_false (by omega)
    have : decide ((c : Int) ≤ 90) = true := decide_eq_true (by omega)
    rw [HD.out]
    go_enter Try.func74, Try.ntmps74
    go_wp2
    go_ret
    exact ⟨ret_int (by omega), rfl⟩
  · have HD := Lib.hid (show dval c = 99 by simp only [dval]; repeat (first | rw [if_pos (by omega)] | rw [if_neg (by omega)]))
    have : decide ((48 : Int) ≤ (c : Int)) = true := decide_eq_true (by omega)
    have : decide ((c : Int) ≤ 57) = false := decide_eq_false (by omega)
    have : decide ((97 : Int) ≤ (c : Int)) = false := decide_eq_false (by omega)
    have : decide ((c : Int) ≤ 122) = true := decide_eq_true (by omega)
    have : decide ((65 : Int) ≤ (c : Int)) = false := decide_eq_false (by omega)
    have : decide ((c : Int) ≤ 90) = true := decide_eq_true (by omega)
    rw [HD.out]
    go_enter Try.func74, Try.ntmps74
    go_wp2
    go_ret
    exact ⟨ret_int (by omega), rfl⟩
  · have HD := Lib.hid (show dval c = c - 55 by simp only [dval]; repeat (first | rw [if_pos (by omega)] | rw [if_neg (by omega)]))
    have : decide ((48 : Int) ≤ (c : Int)) = true := decide_eq_true (by omega)
    have : decide ((c : Int) ≤ 57) = false := decide_eq_false (by omega)
    have : decide ((97 : Int) ≤ (c : Int)) = false := decide_eq_false (by omega)
    have : decide ((c : Int) ≤ 122) = true := decide_eq_true (by omega)
    have : decide ((65 : Int) ≤ (c : Int)) = true := decide_eq_true (by omega)
    have : decide ((c : Int) ≤ 90) = true := decide_eq_true (by omega)
    rw [HD.out]
    go_enter Try.func74, Try.ntmps74
    go_wp2
    go_ret
    exact ⟨ret_int (by omega), rfl⟩
  · have HD := Lib.hid (show dval c = 99 by simp only [dval]; repeat (first | rw [if_pos (by omega)] | rw [if_neg (by omega)]))
    have : decide ((48 : Int) ≤ (c : Int)) = true := decide_eq_true (by omega)
    have : decide ((c : Int) ≤ 57) = false := decide_eq_false (by omega)
    have : decide ((97 : Int) ≤ (c : Int)) = false := decide_eq_false (by omega)
    have : decide ((c : Int) ≤ 122) = true := decide_eq_true (by omega)
    have : decide ((65 : Int) ≤ (c : Int)) = true := decide_eq_true (by omega)
    have : decide ((c : Int) ≤ 90) = false := decide_eq_false (by omega)
    rw [HD.out]
    go_enter Try.func74, Try.ntmps74
    go_wp2
    go_ret
    exact ⟨ret_int (by omega), rfl⟩
  · have HD := Lib.hid (show dval c = c - 87 by simp only [dval]; repeat (first | rw [if_pos (by omega)] | rw [if_neg (by omega)]))
    have : decide ((48 : Int) ≤ (c : Int)) = true := decide_eq_true (by omega)
    have : decide ((c : Int) ≤ 57) = false := decide_eq_false (by omega)
    have : decide ((97 : Int) ≤ (c : Int)) = true := decide_eq_true (by omega)
    have : decide ((c : Int) ≤ 122) = true := decide_eq_true (by omega)
    have : decide ((65 : Int) ≤ (c : Int)) = true := decide_eq_true (by omega)
    have : decide ((c : Int) ≤ 90) = false := decide_eq_false (by omega)
    rw [HD.out]
    go_enter Try.func74, Try.ntmps74
    go_wp2
    go_ret
    exact ⟨ret_int (by omega), rfl⟩
  · have HD := Lib.hid (show dval c = 99 by simp only [dval]; repeat (first | rw [if_pos (by omega)] | rw [if_neg (by omega)]))
    have : decide ((48 : Int) ≤ (c : Int)) = true := decide_eq_true (by omega)
    have : decide ((c : Int) ≤ 57) = false := decide_eq_false (by omega)
    have : decide ((97 : Int) ≤ (c : Int)) = true := decide_eq_true (by omega)
    have : decide ((c : Int) ≤ 122) = false := decide_eq_false (by omega)
    have : decide ((65 : Int) ≤ (c : Int)) = true := decide_eq_true (by omega)
    have : decide ((c : Int) ≤ 90) = false := decide_eq_false (by omega)
    rw [HD.out]
    go_enter Try.func74, Try.ntmps74
    go_wp2
    go_ret
    exact ⟨ret_int (by omega), rfl⟩
end Go.Proofs.Ytggdmhkdmkldoaa

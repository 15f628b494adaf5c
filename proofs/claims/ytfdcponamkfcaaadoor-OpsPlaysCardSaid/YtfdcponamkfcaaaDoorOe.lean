import Derived.Test.YtfdcponamkfcaaaDoorOa
import Derived.Deep.DeepCutAuto
import Derived.Deep.CutBlock
namespace Go.Proofs.YtfdcponamkfcaaaDoor
open Go.RowKit Ho Go.Maps
set_option linter.unusedVariables false
set_option linter.unusedSimpArgs false

theorem opBelowN {B : Nat} {a w : World} (h : Below B a w) (n : Nat) : Below B a (w.drewN n) := h.trans ⟨rfl, rfl, rfl, Nat.le_refl _, fun _ _ => rfl⟩
/-! ### Sides: the program's and the document's -/
def sides (t p : Int) : Int × Int :=
  if t = 1 then (0, wrap64 (p - 1)) else if t = 2 then (0, p) else if t = 3 then (wrap64 (p - 1), wrap64 (p - 1)) else if t = 4 then (wrap64 (p - 1), p) else if t = 5 then (p, wrap64 (p - 1)) else if t = 6 then (wrap64 (p - 1), 0) else if t = 7 then (p, 0) else (0, 0)
def SidesPost (w : World) (x : Int × Int) (e : Ending) (w' : World) : Prop := e = .returned (.tuple #[.int .i64 x.1, .int .i64 x.2]) ∧ Below w.heap.size w w'
theorem ret2_i64 {a b c d : Int} (h : a = c) (h2 : b = d) : Ending.returned (.tuple #[.int .i64 a, .int .i64 b]) = .returned (.tuple #[.int .i64 c, .int .i64 d]) := by rw [h, h2]
set_option maxRecDepth 100000 in
set_option maxHeartbeats 2000000 in
theorem Sides_any (s : ByteArray) (t p : Int) (w : World) :
    Calls Tryd.prog 9 #[.agg #[.string s, .int .i64 t, .int .i64 p]] w (SidesPost w (sides t p)) := by
  have HB := Lib.hid ((Below.refl w.heap.size w).alloc (Nat.le_refl _) (.cells #[.string s, .int .i64 t, .int .i64 p] 23))
  by_cases h1 : t = 1
  · subst h1
    have HS := Lib.hid (show sides 1 p = (0, wrap64 (p - 1)) from rfl)
    go_enter Tryd.func9, Tryd.ntmps9
    go_wp2
    go_ret2
    exact ⟨ret2_i64 (by rw [HS.out]) (by rw [HS.out]), HB.out⟩
  by_cases h2 : t = 2
  · subst h2
    have HS := Lib.hid (show sides 2 p = (0, p) from rfl)
    go_enter Tryd.func9, Tryd.ntmps9
    go_wp2
    go_ret2
    exact ⟨ret2_i64 (by rw [HS.out]) (by rw [HS.out]), HB.out⟩
  by_cases h3 : t = 3
  · subst h3
    have HS := Lib.hid (show sides 3 p = (wrap64 (p - 1), wrap64 (p - 1)) from rfl)
    go_enter Tryd.func9, Tryd.ntmps9
    go_wp2
    go_ret2
    exact ⟨ret2_i64 (by rw [HS.out]) (by rw [HS.out]), HB.out⟩
  by_cases h4 : t = 4
  · subst h4
    have HS := Lib.hid (show sides 4 p = (wrap64 (p - 1), p) from rfl)
    go_enter Tryd.func9, Tryd.ntmps9
    go_wp2
    go_ret2
    exact ⟨ret2_i64 (by rw [HS.out]) (by rw [HS.out]), HB.out⟩
  by_cases h5 : t = 5
  · subst h5
    have HS := Lib.hid (show sides 5 p = (p, wrap64 (p - 1)) from rfl)
    go_enter Tryd.func9, Tryd.ntmps9
    go_wp2
    go_ret2
    exact ⟨ret2_i64 (by rw [HS.out]) (by rw [HS.out]), HB.out⟩
  by_cases h6 : t = 6
  · subst h6
    have HS := Lib.hid (show sides 6 p = (wrap64 (p - 1), 0) from rfl)
    go_enter Tryd.func9, Tryd.ntmps9
    go_wp2
    go_ret2
    exact ⟨ret2_i64 (by rw [HS.out]) (by rw [HS.out]), HB.out⟩
  by_cases h7 : t = 7
  · subst h7
    have HS := Lib.hid (show sides 7 p = (p, 0) from rfl)
    go_enter Tryd.func9, Tryd.ntmps9
    go_wp2
    go_ret2
    exact ⟨ret2_i64 (by rw [HS.out]) (by rw [HS.out]), HB.out⟩
  have HS := Lib.hid (show sides t p = (0, 0) by unfold sides; rw [if_neg h1, if_neg h2, if_neg h3, if_neg h4, if_neg h5, if_neg h6, if_neg h7])
  have d1 : (t == 1) = false := beq_eq_false_iff_ne.2 h1
  have d2 : (t == 2) = false := beq_eq_false_iff_ne.2 h2
  have d3 : (t == 3) = false := beq_eq_false_iff_ne.2 h3
  have d4 : (t == 4) = false := beq_eq_false_iff_ne.2 h4
  have d5 : (t == 5) = false := beq_eq_false_iff_ne.2 h5
  have d6 : (t == 6) = false := beq_eq_false_iff_ne.2 h6
  have d7 : (t == 7) = false := beq_eq_false_iff_ne.2 h7
  clear h1 h2 h3 h4 h5 h6 h7
  go_enter Tryd.func9, Tryd.ntmps9
  go_wp2
  go_ret2
  exact ⟨ret2_i64 (by rw [HS.out]) (by rw [HS.out]), HB.out⟩
set_option maxRecDepth 100000 in
set_option maxHeartbeats 2000000 in
theorem rSides_any (s : ByteArray) (t p : Int) (w : World) :
    Calls Tryd.prog 10 #[.agg #[.string s, .int .i64 t, .int .i64 p]] w (SidesPost w (sides t p)) := by
  have HB := Lib.hid ((Below.refl w.heap.size w).alloc (Nat.le_refl _) (.cells #[.string s, .int .i64 t, .int .i64 p] 23))
  by_cases h1 : t = 1
  · subst h1
    have HS := Lib.hid (show sides 1 p = (0, wrap64 (p - 1)) from rfl)
    go_enter Tryd.func10, Tryd.ntmps10
    go_upto_region 6 with fail
    go_quiet (fail)
    go_wp2
    go_ret2
    exact ⟨ret2_i64 (by rw [HS.out]) (by rw [HS.out]), by repeat (first | exact Below.refl _ _ | exact HB.out | refine Below.drew ?_ | refine Below.alloc ?_ (by simp <;> omega) _ | refine opBelowN ?_ _)⟩
  by_cases h2 : t = 2
  · subst h2
    have HS := Lib.hid (show sides 2 p = (0, p) from rfl)
    go_enter Tryd.func10, Tryd.ntmps10
    go_upto_region 6 with fail
    go_quiet (fail)
    go_wp2
    go_ret2
    exact ⟨ret2_i64 (by rw [HS.out]) (by rw [HS.out]), by repeat (first | exact Below.refl _ _ | exact HB.out | refine Below.drew ?_ | refine Below.alloc ?_ (by simp <;> omega) _ | refine opBelowN ?_ _)⟩
  by_cases h3 : t = 3
  · subst h3
    have HS := Lib.hid (show sides 3 p = (wrap64 (p - 1), wrap64 (p - 1)) from rfl)
    go_enter Tryd.func10, Tryd.ntmps10
    go_upto_region 6 with fail
    go_quiet (fail)
    go_wp2
    go_ret2
    exact ⟨ret2_i64 (by rw [HS.out]) (by rw [HS.out]), by repeat (first | exact Below.refl _ _ | exact HB.out | refine Below.drew ?_ | refine Below.alloc ?_ (by simp <;> omega) _ | refine opBelowN ?_ _)⟩
  by_cases h4 : t = 4
  · subst h4
    have HS := Lib.hid (show sides 4 p = (wrap64 (p - 1), p) from rfl)
    go_enter Tryd.func10, Tryd.ntmps10
    go_upto_region 6 with fail
    go_quiet (fail)
    go_wp2
    go_ret2
    exact ⟨ret2_i64 (by rw [HS.out]) (by rw [HS.out]), by repeat (first | exact Below.refl _ _ | exact HB.out | refine Below.drew ?_ | refine Below.alloc ?_ (by simp <;> omega) _ | refine opBelowN ?_ _)⟩
  by_cases h5 : t = 5
  · subst h5
    have HS := Lib.hid (show sides 5 p = (p, wrap64 (p - 1)) from rfl)
    go_enter Tryd.func10, Tryd.ntmps10
    go_upto_region 6 with fail
    go_quiet (fail)
    go_wp2
    go_ret2
    exact ⟨ret2_i64 (by rw [HS.out]) (by rw [HS.out]), by repeat (first | exact Below.refl _ _ | exact HB.out | refine Below.drew ?_ | refine Below.alloc ?_ (by simp <;> omega) _ | refine opBelowN ?_ _)⟩
  by_cases h6 : t = 6
  · subst h6
    have HS := Lib.hid (show sides 6 p = (wrap64 (p - 1), 0) from rfl)
    go_enter Tryd.func10, Tryd.ntmps10
    go_upto_region 6 with fail
    go_quiet (fail)
    go_wp2
    go_ret2
    exact ⟨ret2_i64 (by rw [HS.out]) (by rw [HS.out]), by repeat (first | exact Below.refl _ _ | exact HB.out | refine Below.drew ?_ | refine Below.alloc ?_ (by simp <;> omega) _ | refine opBelowN ?_ _)⟩
  by_cases h7 : t = 7
  · subst h7
    have HS := Lib.hid (show sides 7 p = (p, 0) from rfl)
    go_enter Tryd.func10, Tryd.ntmps10
    go_upto_region 6 with fail
    go_quiet (fail)
    go_wp2
    go_ret2
    exact ⟨ret2_i64 (by rw [HS.out]) (by rw [HS.out]), by repeat (first | exact Below.refl _ _ | exact HB.out | refine Below.drew ?_ | refine Below.alloc ?_ (by simp <;> omega) _ | refine opBelowN ?_ _)⟩
  have HS := Lib.hid (show sides t p = (0, 0) by unfold sides; rw [if_neg h1, if_neg h2, if_neg h3, if_neg h4, if_neg h5, if_neg h6, if_neg h7])
  by_cases hlo : t < 1
  · have d1 : decide (t < 1) = true := decide_eq_true hlo
    clear h1 h2 h3 h4 h5 h6 h7 hlo
    go_enter Tryd.func10, Tryd.ntmps10
    go_wp2
    go_ret2
    exact ⟨ret2_i64 (by rw [HS.out]) (by rw [HS.out]), by repeat (first | exact Below.refl _ _ | exact HB.out | refine Below.drew ?_ | refine Below.alloc ?_ (by simp <;> omega) _ | refine opBelowN ?_ _)⟩
  · have d1 : decide (t < 1) = false := decide_eq_false hlo
    have d2 : decide (7 < t) = true := decide_eq_true (by omega)
    clear h1 h2 h3 h4 h5 h6 h7 hlo
    go_enter Tryd.func10, Tryd.ntmps10
    go_wp2
    go_ret2
    exact ⟨ret2_i64 (by rw [HS.out]) (by rw [HS.out]), by repeat (first | exact Below.refl _ _ | exact HB.out | refine Below.drew ?_ | refine Below.alloc ?_ (by simp <;> omega) _ | refine opBelowN ?_ _)⟩
end Go.Proofs.YtfdcponamkfcaaaDoor

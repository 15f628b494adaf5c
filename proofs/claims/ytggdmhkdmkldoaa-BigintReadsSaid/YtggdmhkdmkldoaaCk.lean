import Derived.Test.YtggdmhkdmkldoaaCj
namespace Go.Proofs.Ytggdmhkdmkldoaa
open Go.RowKit Hb

theorem cmpZ_zero {x y : Int} : cmpZ x y = 0 ↔ x = y := by unfold cmpZ; split <;> (try split) <;> omega
def SamePost (b : Bool) (w : World) (e : Ending) (w' : World) : Prop := e = .returned (.bool b) ∧ Below w.heap.size w w'
set_option maxHeartbeats 1000000 in
theorem same_any (na nb : Bool) {B B' : Nat} {A A' : Option Addr} {l m : List Nat} {n c n' c' : Nat} {w : World} (hs : SlU w B A n c l) (ht : SlU w B' A' n' c' m) (hB : B ≤ w.heap.size) (hB' : B' ≤ w.heap.size) (e f : Int) :
    Calls Try.prog 48 #[.agg #[.bool na, .slice A n c], .int .i64 e, .agg #[.bool nb, .slice A' n' c'], .int .i64 f] w (SamePost (decide (e = f) && decide (ival na l = ival nb m)) w) := by
  have HC := Lib.hid (fun w1 (hb : Below w.heap.size w w1) => Cmp_any na nb (hs.below (C := w.heap.size) hb hB) (ht.below (C := w.heap.size) hb hB') (Nat.le_trans hB hb.size) (Nat.le_trans hB' hb.size))
  have HB := Lib.hid (Below.refl w.heap.size w)
  have hz := cmpZ_zero (x := ival na l) (y := ival nb m)
  clear hs ht hB hB'
  by_cases hef : e = f
  · have hd : (e == f) = true := by simp [hef]
    have HR := Lib.hid (show (decide (e = f) && decide (ival na l = ival nb m)) = decide (cmpZ (ival na l) (ival nb m) = 0) by rw [decide_eq_true hef, Bool.true_and]; exact decide_eq_decide.2 hz.symm)
    rw [HR.out]
    generalize cmpZ (ival na l) (ival nb m) = cz at *
    generalize hq : decide (cz = 0) = q at *
    have hq2 : (cz == 0) = q := by rw [← hq]; rfl
    clear hz hef HR hq
    go_enter Try.func48, Try.ntmps48
    go_wp2_with fail
    refine (HC.out _ ((HB.out.alloc (Nat.le_refl _) _).alloc (by simp) _)).mono ?_
    rintro ex w3 ⟨rfl, hb3⟩
    go_wp2
    go_ret
    exact ⟨rfl, ((HB.out.alloc (Nat.le_refl _) _).alloc (by simp) _).trans (hb3.mono (by simp; omega))⟩
  · have hd : (e == f) = false := beq_eq_false_iff_ne.2 hef
    have HR := Lib.hid (show (decide (e = f) && decide (ival na l = ival nb m)) = false by rw [decide_eq_false hef, Bool.false_and])
    rw [HR.out]
    clear hz hef HR
    go_enter Try.func48, Try.ntmps48
    go_wp2
    go_ret
    exact ⟨rfl, ((HB.out.alloc (Nat.le_refl _) _).alloc (by simp) _)⟩
end Go.Proofs.Ytggdmhkdmkldoaa

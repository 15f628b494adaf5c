import Derived.Sort.Grow
import Derived.Test.YtfdcponamkfcaaaDoorNc
import Derived.Test.YtfdcponamkfcaaaDoorMem
namespace Go.Proofs.YtfdcponamkfcaaaDoor
open Go.RowKit Ho Go.Maps Go.Shelf Go.Sort Hb
set_option linter.unusedVariables false
set_option linter.unusedSimpArgs false
/-! ### the closure by which All sorts -/
theorem cls_le3 (k : Int) : cls k ≤ 3 := by
  unfold cls
  split
  · omega
  · split
    · omega
    · split <;> omega
theorem drewN_cell (w : World) (n : Nat) (a : Addr) : (w.drewN n).cell? a = w.cell? a := rfl
set_option maxRecDepth 100000 in
set_option maxHeartbeats 2000000 in
theorem closure_cmp (hC0 : ∀ (a b : ByteArray) (w1 : World), Calls Tryd.prog 42 #[.string a, .string b] w1 fun e w' => e = .returned (.int .i64 (Lib.compareBytes a.data.toList b.data.toList)) ∧ w' = w1) (x y : OpV) (W : World) :
    Calls Tryd.prog 41 #[.agg (encO x).toArray, .agg (encO y).toArray] W fun e w' => e = .returned (.int .i64 (cmpO x y)) ∧ ∃ q os', w' = grow (W.drewN q) os' := by
  have HC := Lib.hid hC0
  clear hC0
  have HK := Lib.hid (fun (t : Int) w1 => class_any t w1)
  obtain ⟨xn, xt, xp⟩ := x
  obtain ⟨yn, yt, yp⟩ := y
  have hcl1 := cls_le3 xt
  have hcl2 := cls_le3 yt
  obtain ⟨c1, hc1⟩ : ∃ c, cls xt = c := ⟨_, rfl⟩
  obtain ⟨c2, hc2⟩ : ∃ c, cls yt = c := ⟨_, rfl⟩
  rw [hc1] at hcl1
  rw [hc2] at hcl2
  obtain ⟨a, ha⟩ : ∃ a : ByteArray, (⟨xn.toArray⟩ : ByteArray) = a := ⟨_, rfl⟩
  obtain ⟨b, hb⟩ : ∃ b : ByteArray, (⟨yn.toArray⟩ : ByteArray) = b := ⟨_, rfl⟩
  have HA := Lib.hid (show a.data.toList = xn by rw [← ha])
  have HB := Lib.hid (show b.data.toList = yn by rw [← hb])
  have HK1 := Lib.hid (fun w1 => show Calls Tryd.prog 34 #[.int .i64 xt] w1 (fun e w' => e = .returned (.int .i64 ((c1 : Int) - 1)) ∧ w1 = w') from by rw [← hc1]; exact class_any xt w1)
  have HK2 := Lib.hid (fun w1 => show Calls Tryd.prog 34 #[.int .i64 yt] w1 (fun e w' => e = .returned (.int .i64 ((c2 : Int) - 1)) ∧ w1 = w') from by rw [← hc2]; exact class_any yt w1)
  unfold encO
  dsimp only
  rw [ha, hb]
  by_cases hn : xn = yn
  · have HR := Lib.hid (show cmpO ⟨xn, xt, xp⟩ ⟨yn, yt, yp⟩ = ((c1 : Int) - 1) - ((c2 : Int) - 1) by
      unfold cmpO; rw [if_pos hn]; show (cls xt : Int) - cls yt = _; rw [hc1, hc2]; omega)
    obtain rfl : a = b := by rw [← ha, ← hb, hn]
    obtain ⟨d, hd⟩ : ∃ d : Int, ((c1 : Int) - 1) - ((c2 : Int) - 1) = d := ⟨_, rfl⟩
    obtain ⟨e1, he1⟩ : ∃ d : Int, ((c1 : Int) - 1) = d := ⟨_, rfl⟩
    obtain ⟨e2, he2⟩ : ∃ d : Int, ((c2 : Int) - 1) = d := ⟨_, rfl⟩
    have b1 : -1 ≤ e1 := by omega
    have b2 : e1 ≤ 2 := by omega
    have b3 : -1 ≤ e2 := by omega
    have b4 : e2 ≤ 2 := by omega
    rw [he1, he2] at hd
    have HR' := Lib.hid (HR.out.trans (by rw [he1, he2, hd]))
    have s2 : (a.toList == a.toList) = true := by simp
    rw [he1] at HK1
    rw [he2] at HK2
    clear hn ha hb hc1 hc2 hcl1 hcl2 HR he1 he2
    go_enter Tryd.func41, Tryd.ntmps41
    go_wp2_with fail
    go_quiet ((go_at_call 34; first | (with_reducible exact quiet_left (HK1.out _)) | (with_reducible exact quiet_left (HK2.out _))))
    go_wp2
    go_ret
    exact ⟨by rw [HR'.out]; rfl, nq, #[_, _], by rw [alloc_eq_grow, alloc_eq_grow, grow_grow]; rfl⟩
  · have hne : ¬ a = b := fun e => hn (by rw [← HA.out, ← HB.out, e])
    have s2 : (a.toList == b.toList) = false := by rw [ByteArray.toList_eq, ByteArray.toList_eq, HA.out, HB.out]; exact beq_eq_false_iff_ne.2 hn
    have HR := Lib.hid (show cmpO ⟨xn, xt, xp⟩ ⟨yn, yt, yp⟩ = Lib.compareBytes a.data.toList b.data.toList by
      unfold cmpO; rw [if_neg hn, HA.out, HB.out])
    have HC2 := Lib.hid (HC.out a b)
    generalize Lib.compareBytes a.data.toList b.data.toList = r at HR HC2
    clear hn hne ha hb hc1 hc2 hcl1 hcl2
    go_enter Tryd.func41, Tryd.ntmps41
    go_wp2_with fail
    (with_reducible refine (HC2.out _).mono ?_)
    rintro e w' ⟨rfl, rfl⟩
    go_wp2
    go_ret
    exact ⟨by rw [HR.out]; rfl, 0, #[_, _], by rw [alloc_eq_grow, alloc_eq_grow, grow_grow]; rfl⟩
end Go.Proofs.YtfdcponamkfcaaaDoor

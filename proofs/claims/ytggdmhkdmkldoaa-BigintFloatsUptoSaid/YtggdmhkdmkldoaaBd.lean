import Derived.Test.YtggdmhkdmkldoaaBc
namespace Go.Proofs.Ytggdmhkdmkldoaa
open Go.RowKit Hb

def cmpZ (a b : Int) : Int := if a < b then -1 else if b < a then 1 else 0
theorem cmpZ_lt {a b : Int} (h : a < b) : cmpZ a b = -1 := by simp [cmpZ, h]
theorem cmpZ_gt {a b : Int} (h : b < a) : cmpZ a b = 1 := by simp [cmpZ, h]; omega
theorem cmpZ_sign {a b : Int} (h : a.sign < b.sign) : a < b := by
  rcases Int.lt_or_le a b with h1 | h1
  · exact h1
  · exfalso
    rcases Int.lt_trichotomy a 0 with ha | ha | ha <;> rcases Int.lt_trichotomy b 0 with hb | hb | hb
    all_goals first
      | omega
      | (subst ha; subst hb; simp at h)
      | (simp [Int.sign_eq_neg_one_of_neg, Int.sign_eq_one_of_pos, *] at h; done)
      | (rw [Int.sign_eq_neg_one_of_neg ha, Int.sign_eq_neg_one_of_neg hb] at h; omega)
      | (rw [Int.sign_eq_one_of_pos ha, Int.sign_eq_one_of_pos hb] at h; omega)
      | (rw [Int.sign_eq_one_of_pos ha, Int.sign_eq_neg_one_of_neg hb] at h; omega)
theorem ival_of_sign_neg {neg : Bool} {l : List Nat} (h : (ival neg l).sign < 0) : ival neg l = -(nv W l : Int) := by
  cases neg
  · exfalso
    have : 0 ≤ (ival false l).sign := Int.sign_nonneg_iff.2 (by simp [ival])
    omega
  · simp [ival]
theorem ival_of_sign_nonneg {neg : Bool} {l : List Nat} (h : ¬ (ival neg l).sign < 0) : ival neg l = (nv W l : Int) := by
  cases neg
  · simp [ival]
  · have h1 : 0 ≤ ival true l := Int.sign_nonneg_iff.1 (by omega)
    simp [ival] at h1 ⊢
    omega
theorem cmpN_Z (a b : Nat) : cmpN a b = cmpZ (a : Int) (b : Int) := by simp [cmpN, cmpZ]
theorem cmpN_Zneg (a b : Nat) : cmpN b a = cmpZ (-(a : Int)) (-(b : Int)) := by
  unfold cmpN cmpZ
  by_cases h1 : b < a
  · rw [if_pos h1, if_pos (by omega)]
  · by_cases h2 : a < b
    · rw [if_neg h1, if_pos h2, if_neg (by omega), if_pos (by omega)]
    · rw [if_neg h1, if_neg h2, if_neg (by omega), if_neg (by omega)]

theorem heap_first2 (w : World) (a b : Obj) : ((w.alloc a).alloc b).heap[w.heap.size]? = some a := by
  rw [Below.heap_alloc _ _ _ (by simp)]; exact heap_alloc_new w a
theorem two_boxes {w w0 w2 : World} {C t1 t2 : Nat} {x y u v : Value} (hb : Below C w0 w2) (hw : w0.heap = ((w.alloc (.cells #[x, y] t1)).alloc (.cells #[u, v] t2)).heap) (hC : w.heap.size + 2 ≤ C) :
    (w2.cell? ⟨w.heap.size, 0, none⟩ = some x ∧ w2.cell? ⟨w.heap.size, 1, none⟩ = some y) ∧ (w2.cell? ⟨w.heap.size + 1, 0, none⟩ = some u ∧ w2.cell? ⟨w.heap.size + 1, 1, none⟩ = some v) := by
  have h1 := two_cells hb (by rw [hw]; exact heap_first2 w _ _) (by omega)
  have h2 := two_cells hb (by rw [hw]; exact heap_second w _ _) (by omega)
  exact ⟨⟨h1.1, h1.2.1⟩, h2.1, h2.2.1⟩

def CmpZPost (z : Int) (w : World) (e : Ending) (w' : World) : Prop := e = .returned (.int .i64 z) ∧ Below w.heap.size w w'

attribute [local go_sem ↓] Go.wp_at_zero Go.wp_at_succ
set_option maxHeartbeats 1000000 in
theorem Cmp_any (na nb : Bool) {B B' : Nat} {A A' : Option Addr} {l m : List Nat} {n c n' c' : Nat} {w : World} (hs : SlU w B A n c l) (ht : SlU w B' A' n' c' m) (hB : B ≤ w.heap.size) (hB' : B' ≤ w.heap.size) :
    Calls Try.prog 32 #[.agg #[.bool na, .slice A n c], .agg #[.bool nb, .slice A' n' c']] w (CmpZPost (cmpZ (ival na l) (ival nb m)) w) := by
  have H1 := Lib.hid (fun w1 (hb : Below w.heap.size w w1) => sign_any na (hs.below (C := w.heap.size) hb hB) (Nat.le_trans hB hb.size))
  have H2 := Lib.hid (fun w1 (hb : Below w.heap.size w w1) => sign_any nb (ht.below (C := w.heap.size) hb hB') (Nat.le_trans hB' hb.size))
  have H3 := Lib.hid (fun w1 (hb : Below w.heap.size w w1) => cmp_any (hs.below (C := w.heap.size) hb hB) (ht.below (C := w.heap.size) hb hB'))
  have H4 := Lib.hid (fun w1 (hb : Below w.heap.size w w1) => cmp_any (ht.below (C := w.heap.size) hb hB') (hs.below (C := w.heap.size) hb hB))
  have hW : Below w.heap.size w ((w.alloc (.cells #[.bool na, .slice A n c] 24)).alloc (.cells #[.bool nb, .slice A' n' c'] 24)) := ((Below.refl _ _).alloc (Nat.le_refl _) _).alloc (by simp) _
  have HS := Lib.hid (fun C w2 (hb : Below C ((w.alloc (.cells #[.bool na, .slice A n c] 24)).alloc (.cells #[.bool nb, .slice A' n' c'] 24)).drew w2) (hC : w.heap.size + 2 ≤ C) => two_boxes hb (by rfl) hC)
  have HL := Lib.hid (fun h => cmpZ_lt (cmpZ_sign (a := ival na l) (b := ival nb m) h))
  have HG := Lib.hid (fun h => cmpZ_gt (cmpZ_sign (a := ival nb m) (b := ival na l) h))
  have HN := Lib.hid (show (ival na l).sign < 0 → (ival nb m).sign < 0 → cmpN (nv W m) (nv W l) = cmpZ (ival na l) (ival nb m) from fun h1 h2 => by rw [ival_of_sign_neg h1, ival_of_sign_neg h2, cmpN_Zneg])
  have HP := Lib.hid (show ¬ (ival na l).sign < 0 → ¬ (ival nb m).sign < 0 → cmpN (nv W l) (nv W m) = cmpZ (ival na l) (ival nb m) from fun h1 h2 => by rw [ival_of_sign_nonneg h1, ival_of_sign_nonneg h2, cmpN_Z])
  clear hs ht hB hB'
  generalize cmpZ (ival na l) (ival nb m) = Z at *
  generalize (ival na l).sign = s at *
  generalize (ival nb m).sign = t at *
  have key : ∃ b1 b2 b3 : Bool, decide (s < t) = b1 ∧ decide (t < s) = b2 ∧ decide (s < 0) = b3 := ⟨_, _, _, rfl, rfl, rfl⟩
  obtain ⟨b1, b2, b3, k1, k2, k3⟩ := key
  have HW := Lib.hid hW
  clear hW
  go_enter Try.func32, Try.ntmps32
  go_wp2_with fail
  go_region_held3 (fun w' => (w'.cell? ⟨w.heap.size, 0, none⟩ = some (.bool na) ∧ w'.cell? ⟨w.heap.size, 1, none⟩ = some (.slice A n c)) ∧ (w'.cell? ⟨w.heap.size + 1, 0, none⟩ = some (.bool nb) ∧ w'.cell? ⟨w.heap.size + 1, 1, none⟩ = some (.slice A' n' c')))
    (first | go_keep | exact HS.out _ _ (hb1.trans (hb2.mono hb1.size)) (by simp) | exact HS.out _ _ hb1 (by simp))
    (first
      | (go_at_call 42; (with_reducible refine (H1.out _ ?_).mono ?_); exact HW.out.drew; rintro e w1 ⟨rfl, hb1⟩)
      | (go_at_call 42; (with_reducible refine (H2.out _ ?_).mono ?_); exact HW.out.drew.trans (hb1.mono (by simp; omega)); rintro e w2 ⟨rfl, hb2⟩))
  have hb3 := HW.out.drew.trans ((hb1.trans (hb2.mono hb1.size)).mono (B' := w.heap.size) (by simp; omega))
  clear hb1 hb2
  go_wp2_with fail
  · have h : b1 = true := by assumption
    go_ret
    exact ⟨ret_int (HL.out (of_decide_eq_true (k1.trans h))).symm, hb3⟩
  · have h : b2 = true := by assumption
    go_ret
    exact ⟨ret_int (HG.out (of_decide_eq_true (k2.trans h))).symm, hb3⟩
  · have g1 : b1 = false := by assumption
    have g2 : b2 = false := by assumption
    have g3 : b3 = true := by assumption
    have HV := Lib.hid (HN.out (of_decide_eq_true (k3.trans g3)) (by have := of_decide_eq_false (k1.trans g1); have := of_decide_eq_false (k2.trans g2); have := of_decide_eq_true (k3.trans g3); omega))
    refine (H4.out _ hb3).mono ?_; rintro e w3 ⟨rfl, hdr⟩
    go_wp2
    go_ret
    exact ⟨ret_int HV.out, hb3.trans (hdr.below _)⟩
  · have g1 : b1 = false := by assumption
    have g2 : b2 = false := by assumption
    have g3 : b3 = false := by assumption
    have HV := Lib.hid (HP.out (by have := of_decide_eq_false (k3.trans g3); omega) (by have := of_decide_eq_false (k1.trans g1); have := of_decide_eq_false (k2.trans g2); have := of_decide_eq_false (k3.trans g3); omega))
    refine (H3.out _ hb3).mono ?_; rintro e w3 ⟨rfl, hdr⟩
    go_wp2
    go_ret
    exact ⟨ret_int HV.out, hb3.trans (hdr.below _)⟩
end Go.Proofs.Ytggdmhkdmkldoaa

import Derived.Test.YtfdcponamkfcaaaDoorOq
namespace Go.Proofs.YtfdcponamkfcaaaDoor
open Go.RowKit Ho Go.Maps Hb
set_option linter.unusedVariables false
set_option linter.unusedSimpArgs false

theorem rtypes_any (w : World) : Calls Tryd.prog 33 #[.string ⟨#[102, 120, 32, 102, 121, 32, 120, 102, 120, 32, 120, 102, 121, 32, 121, 102, 120, 32, 120, 102, 32, 121, 102]⟩] w fun e w' => ∃ g c, e = .returned (.slice (some ⟨g, 0, none⟩) 7 c) ∧ 7 ≤ c ∧ (∀ k, k < 7 → w'.cell? ⟨g, k, none⟩ = some (.string ⟨(typeWords.getD k []).toArray⟩)) ∧ Below w.heap.size w w' := by
  have h := rwords_any typesText w (by decide)
  rw [types_rwords] at h
  refine h.mono fun e w' ⟨A, c, he, ho, hb⟩ => ?_
  obtain ⟨g, hA, _, _⟩ := Own.at_ ho (by decide)
  subst hA
  refine ⟨g, c, he, (Own.cap ho).1, fun k hk => ?_, hb⟩
  rw [Own.cell ho (j := k) (by exact hk)]
  have h7 : k < typeWords.length := hk
  simp [strsL, List.getD_eq_getElem?_getD, List.getElem?_eq_getElem h7]
set_option maxRecDepth 100000 in
set_option maxHeartbeats 2000000 in
theorem rType_any (s : ByteArray) (w : World) :
    Calls Tryd.prog 12 #[.string s] w fun e w' => e = .returned (.int .i64 (ix typeWords s.data.toList + 1)) ∧ Below w.heap.size w w' := by
  have HW := Lib.hid (rtypes_any w)
  go_enter Tryd.func12, Tryd.ntmps12
  go_wp2_with fail
  (with_reducible refine HW.out.mono ?_)
  rintro ex w1 ⟨g, c, rfl, hc7, hcl, hb⟩
  have HC := Lib.hid hcl
  have HB := Lib.hid hb
  have hcI : (7 : Int) ≤ (c : Int) := by omega
  clear hcl hb
  go_wp2_with fail
  go_loop [4] (fun iv => ∃ k : Nat, k ≤ 7 ∧ iv = .int .i64 (k : Int) ∧ s.data.toList ∉ typeWords.take k) (fun iv => 7 - (intOf iv).toNat)
  case atStart => exact ⟨0, Nat.zero_le _, rfl, by simp⟩
  case round =>
    obtain ⟨k, hk, rfl, hni⟩ := hrel
    have hkI : (0 : Int) ≤ (k : Int) := by omega
    by_cases hlt : k < 7
    · have hcell := HC.out k hlt
      obtain ⟨y, hy⟩ : ∃ y : ByteArray, (⟨(typeWords.getD k []).toArray⟩ : ByteArray) = y := ⟨_, rfl⟩
      rw [hy] at hcell
      have hyl : y.data.toList = typeWords.getD k [] := by rw [← hy]
      have hltI : (k : Int) < 7 := by omega
      by_cases he : typeWords.getD k [] = s.data.toList
      · have e1 : (y == s) = true := str_beq2 y s (by rw [hyl, he]; simp)
        have e2 : (y.toList == s.toList) = true := by rw [ByteArray.toList_eq, ByteArray.toList_eq, hyl, he]; simp
        have HR := Lib.hid (ix_at (l := typeWords) (by exact hlt) he hni)
        clear hni hy hyl he
        go_wp2
        go_ret
        exact ⟨by rw [HR.out]; rfl, HB.out⟩
      · have e1 : (y == s) = false := str_beq2 y s (by rw [hyl]; exact decide_eq_false he)
        have e2 : (y.toList == s.toList) = false := by rw [ByteArray.toList_eq, ByteArray.toList_eq, hyl, beq_eq_false_iff_ne]; exact he
        have HR := Lib.hid (notin_succ (l := typeWords) (by exact hlt) he hni)
        clear hni hy hyl he
        go_wp2
        go_round
        case rel => exact ⟨k + 1, by omega, by go_num, HR.out⟩
        case measure => simp [intOf]; omega
    · obtain rfl : k = 7 := by omega
      have HR := Lib.hid (ix_none (l := typeWords) (x := s.data.toList) hni)
      clear hni hlt
      go_wp2
      go_ret
      exact ⟨by rw [HR.out]; rfl, HB.out⟩
set_option maxRecDepth 100000 in
set_option maxHeartbeats 1000000 in
theorem rWord_any (k : Int) (w : World) : Calls Tryd.prog 14 #[.int .i64 k] w (StrPost w (wordOf k)) := by
  by_cases hk : 1 ≤ k ∧ k ≤ 7
  · obtain ⟨i, hi⟩ : ∃ i : Nat, k - 1 = (i : Int) := ⟨(k - 1).toNat, by omega⟩
    have hi7 : i < 7 := by omega
    have HWd := Lib.hid (show wordOf k = typeWords.getD i [] by rw [wordOf, if_pos hk, hi]; rfl)
    have HW := Lib.hid (rtypes_any w)
    have d1 : decide (k < 1) = false := decide_eq_false (by omega)
    have d2 : decide (7 < k) = false := decide_eq_false (by omega)
    have hiI : (0 : Int) ≤ (i : Int) := by omega
    have hiJ : (i : Int) < 7 := by omega
    have hk1 : 1 ≤ k := hk.1
    have hk2 : k ≤ 7 := hk.2
    clear hk
    go_enter Tryd.func14, Tryd.ntmps14
    go_wp2_with fail
    (with_reducible refine HW.out.mono ?_)
    rintro ex w1 ⟨g, c, rfl, hc7, hcl, hb⟩
    have hcell := hcl i hi7
    obtain ⟨y, hy⟩ : ∃ y : ByteArray, (⟨(typeWords.getD i []).toArray⟩ : ByteArray) = y := ⟨_, rfl⟩
    rw [hy] at hcell
    have HY := Lib.hid hy
    have HB := Lib.hid hb
    have hcI : (7 : Int) ≤ (c : Int) := by omega
    clear hcl hb hy hi7
    go_wp2
    go_ret
    exact ⟨by rw [HWd.out, HY.out]; rfl, HB.out⟩
  · have HWd := Lib.hid (show wordOf k = [] by rw [wordOf, if_neg hk])
    by_cases h1 : k < 1
    · have d1 : decide (k < 1) = true := decide_eq_true h1
      clear hk h1
      go_enter Tryd.func14, Tryd.ntmps14
      go_wp2
      go_ret
      exact ⟨by rw [HWd.out]; rfl, Below.refl _ _⟩
    · have d1 : decide (k < 1) = false := decide_eq_false h1
      have d2 : decide (7 < k) = true := decide_eq_true (by omega)
      clear hk h1
      go_enter Tryd.func14, Tryd.ntmps14
      go_wp2
      go_ret
      exact ⟨by rw [HWd.out]; rfl, Below.refl _ _⟩
end Go.Proofs.YtfdcponamkfcaaaDoor

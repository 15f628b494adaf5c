import Derived.Test.YtfdcponamkfcaaaDoorOo
import Derived.Test.YtfdcponamkfcaaaDoorOe
import Derived.Test.YtfdcponamkfcaaaDoorMem
namespace Go.Proofs.YtfdcponamkfcaaaDoor
open Go.RowKit Ho Go.Maps
set_option linter.unusedVariables false
set_option linter.unusedSimpArgs false

/-! ### Word -/
def wordOf (k : Int) : List UInt8 := if 1 ≤ k ∧ k ≤ 7 then typeWords.getD (k - 1).toNat [] else []
def StrPost (w : World) (l : List UInt8) (e : Ending) (w' : World) : Prop := e = .returned (.string ⟨l.toArray⟩) ∧ Below w.heap.size w w'
theorem cls_zero {k : Int} : cls k = 0 ↔ ¬ (1 ≤ k ∧ k ≤ 7) := by
  unfold cls
  split
  · omega
  · split
    · omega
    · split <;> omega
set_option maxRecDepth 100000 in
set_option maxHeartbeats 1000000 in
theorem Word_any (k : Int) {w : World} (hT : Tab w) : Calls Tryd.prog 13 #[.int .i64 k] w (StrPost w (wordOf k)) := by
  by_cases hk : 1 ≤ k ∧ k ≤ 7
  · obtain ⟨i, hi⟩ : ∃ i : Nat, k - 1 = (i : Int) := ⟨(k - 1).toNat, by omega⟩
    have hi7 : i < 7 := by omega
    have hW := Lib.hid (show wordOf k = typeWords.getD i [] by rw [wordOf, if_pos hk, hi]; rfl)
    obtain ⟨y, hy⟩ : ∃ y : ByteArray, (⟨(typeWords.getD i []).toArray⟩ : ByteArray) = y := ⟨_, rfl⟩
    have hcell := strs_cell (heap_alloc_new w (.cells (strs typeWords) 9)) (k := i) (by exact hi7)
    rw [hy] at hcell
    have HY := Lib.hid hy
    have HF := Lib.hid (show Calls Tryd.prog 32 #[.string ⟨#[102, 120, 32, 102, 121, 32, 120, 102, 120, 32, 120, 102, 121, 32, 121, 102, 120, 32, 120, 102, 32, 121, 102]⟩] w _ from types_any w hT)
    obtain ⟨ci, hci⟩ : ∃ ci : Int, (cls k : Int) - 1 = ci := ⟨_, rfl⟩
    have hc0 : decide (ci < 0) = false := by
      refine decide_eq_false ?_
      have := mt cls_zero.1 (fun h => h hk)
      omega
    have HC := Lib.hid (show Calls Tryd.prog 34 #[.int .i64 k] w (fun e w' => e = .returned (.int .i64 ci) ∧ w = w') from by rw [← hci]; exact class_any k w)
    have hiI : (0 : Int) ≤ (i : Int) := by omega
    have hiJ : (i : Int) < 7 := by omega
    have hk1 : 1 ≤ k := hk.1
    have hk2 : k ≤ 7 := hk.2
    clear hk hi7 hy hT hci
    go_enter Tryd.func13, Tryd.ntmps13
    go_wp2_with fail
    (with_reducible refine HC.out.mono ?_)
    rintro e w1 ⟨rfl, rfl⟩
    go_wp2_with fail
    (with_reducible refine HF.out.mono ?_)
    rintro e w1 ⟨rfl, rfl⟩
    go_wp2
    go_ret
    exact ⟨by rw [hW.out, HY.out]; rfl, (Below.refl _ _).alloc (Nat.le_refl _) _⟩
  · have HC := Lib.hid (show Calls Tryd.prog 34 #[.int .i64 k] w (fun e w' => e = .returned (.int .i64 (-1)) ∧ w = w') from by have h9 := class_any k w; rw [cls_zero.2 hk] at h9; exact h9)
    have HW := Lib.hid (show wordOf k = [] by rw [wordOf, if_neg hk])
    clear hk hT
    go_enter Tryd.func13, Tryd.ntmps13
    go_wp2_with fail
    (with_reducible refine HC.out.mono ?_)
    rintro e w1 ⟨rfl, rfl⟩
    go_wp2
    go_ret
    exact ⟨by rw [HW.out]; rfl, Below.refl _ _⟩
/-! ### the reference's words -/
/-- the words of the first i letters, and where the next one begins -/
def wl (l : List UInt8) : Nat → List (List UInt8) × Nat
  | 0 => ([], 0)
  | i + 1 => if i = l.length ∨ l.getD i 0 = 32 then ((if (wl l i).2 < i then (wl l i).1 ++ [(l.drop (wl l i).2).take (i - (wl l i).2)] else (wl l i).1), i + 1) else wl l i
def rwords (l : List UInt8) : List (List UInt8) := (wl l (l.length + 1)).1
theorem types_rwords : rwords typesText.data.toList = typeWords := by decide +kernel
theorem wl_le (l : List UInt8) : ∀ i, (wl l i).2 ≤ i
  | 0 => Nat.le_refl _
  | i + 1 => by
    unfold wl
    split
    · exact Nat.le_refl _
    · exact Nat.le_succ_of_le (wl_le l i)
theorem wl_len (l : List UInt8) : ∀ i, (wl l i).1.length ≤ i
  | 0 => Nat.le_refl _
  | i + 1 => by
    have := wl_len l i
    unfold wl
    split
    · show (if _ then _ else _ : List (List UInt8)).length ≤ _
      split
      · rw [List.length_append]; simp; omega
      · omega
    · omega
end Go.Proofs.YtfdcponamkfcaaaDoor

import Derived.Test.YtfdcponamkfcaaaDoorOt
namespace Go.Proofs.YtfdcponamkfcaaaDoor
open Go.RowKit Ho Go.Maps Hb
set_option linter.unusedVariables false
set_option linter.unusedSimpArgs false

def AwakePost (w : World) (e : Ending) (w' : World) : Prop := e = .returned (.bool true) ∧ Below w.heap.size w w'
set_option maxRecDepth 100000 in
set_option maxHeartbeats 8000000 in
theorem awake_any {w : World} (hT : Tab w) (h2 : 2 ≤ w.heap.size) : Calls Tryd.prog 8 #[] w (AwakePost w) := by
  have HN := Lib.hid (New_any hT h2)
  have HT := Lib.hid (fun w1 (hb : Below w.heap.size w w1) => hT.below hb h2)
  have HLen := Lib.hid rows_len
  have heq1 : ∀ w1 : World, (binOp .eql 23 (.agg #[.string ⟨#[105, 115]⟩, .int .i64 3, .int .i64 700]) (.agg #[.string ⟨#[105, 115]⟩, .int .i64 3, .int .i64 700])).run Tryd.prog w1 = .ok (.bool true) w1 := fun _ => by kernel_rfl
  have heq2 : ∀ w1 : World, (binOp .eql 23 (.agg #[.string ⟨#[105, 115]⟩, .int .i64 2, .int .i64 700]) (.agg #[.string ⟨#[105, 115]⟩, .int .i64 2, .int .i64 700])).run Tryd.prog w1 = .ok (.bool true) w1 := fun _ => by kernel_rfl
  clear hT h2
  go_enter Tryd.func8, Tryd.ntmps8
  go_wp2_with fail
  (with_reducible refine HN.out.mono ?_)
  rintro ex w1 ⟨rfl, ht1, hb1⟩
  have HT1 := Lib.hid ht1
  have HB1 := Lib.hid hb1
  have hz1 := ht1.lt
  have HF := Lib.hid (show Calls Tryd.prog 18 #[.pointer (some ⟨w.heap.size, 0, none⟩), .string ⟨#[105, 115]⟩] w1 (fun e w' => e = .returned (.tuple #[.agg #[.string ⟨#[105, 115]⟩, .int .i64 3, .int .i64 700], .bool true]) ∧ Below w1.heap.size w1 w') from by
    have h := Infix_any ht1 (s := ⟨#[105, 115]⟩) (by decide)
    have e : Ho.find (putAll (rowsO 14)) (1 + 1) (⟨#[105, 115]⟩ : ByteArray).data.toList = some ⟨[105, 115], 3, 700⟩ := find_is
    rw [e] at h
    exact h)
  clear ht1 hb1
  go_wp2_with fail
  (with_reducible refine HF.out.mono ?_)
  rintro ex w2 ⟨rfl, hb2⟩
  have hz2 := hb2.size
  have hb2a : Below w1.heap.size w1 (w2.alloc (.cells #[.string ⟨#[105, 115]⟩, .int .i64 3, .int .i64 700] 23)) := hb2.alloc hb2.size _
  have HT2 := Lib.hid (HT1.out.below hb2a)
  have HB2 := Lib.hid (HB1.out.trans (hb2a.mono HB1.out.size))
  have HC2 := Lib.hid (heap_alloc_new w2 (.cells #[.string ⟨#[105, 115]⟩, .int .i64 3, .int .i64 700] 23))
  clear hb2 hb2a
  go_wp2_with fail
  generalize w2.alloc (.cells #[.string ⟨#[105, 115]⟩, .int .i64 3, .int .i64 700] 23) = W2 at *
  generalize w2.heap.size = g2 at *
  have HA := Lib.hid (show Calls Tryd.prog 17 #[.pointer (some ⟨w.heap.size, 0, none⟩), .int .i64 700, .int .i64 6, .string ⟨#[105, 115]⟩] W2 (AddPost W2 w.heap.size (w.heap.size + 1) (w.heap.size + 1 + 1) (w.heap.size + 1 + 1 + 1) (rowsO 14).length L0 L0 43) from by
    have h := Add_any HT2.out (p := 700) (k := 6) (s := ⟨#[105, 115]⟩) (by decide) (by have := HLen.out; unfold maxLen; omega)
    have e : code (putAll (rowsO 14)) 700 6 (⟨#[105, 115]⟩ : ByteArray).data.toList = 43 := code_is
    rw [Ho.add, e, if_neg (by decide)] at h
    exact h)
  (with_reducible refine HA.out.mono ?_)
  intro ex w3 h3
  have HT3 := Lib.hid h3.2.1
  have HC3 := Lib.hid (h3.cells HT2.out HC2.out)
  have HB3 := Lib.hid (h3.below HB2.out ⟨by omega, by omega, by omega⟩)
  obtain ⟨rfl, _⟩ := h3
  go_wp2_with fail
  have HA2 := Lib.hid (show Calls Tryd.prog 17 #[.pointer (some ⟨w.heap.size, 0, none⟩), .int .i64 700, .int .i64 2, .string ⟨#[105, 115]⟩] w3 (AddPost w3 w.heap.size (w.heap.size + 1) (w.heap.size + 1 + 1) (w.heap.size + 1 + 1 + 1) ((rowsO 14).length + 1) L0 (Ho.add L0 700 2 [105, 115]) 0) from by
    have h := Add_any HT3.out (p := 700) (k := 2) (s := ⟨#[105, 115]⟩) (by decide) (by have := HLen.out; unfold maxLen; omega)
    have e : code L0 700 2 (⟨#[105, 115]⟩ : ByteArray).data.toList = 0 := code_is2
    rw [e] at h
    exact h)
  (with_reducible refine HA2.out.mono ?_)
  intro ex w4 h4
  have HT4 := Lib.hid h4.2.1
  have HC4 := Lib.hid (h4.cells HT3.out HC3.out)
  have HB4 := Lib.hid (h4.below HB3.out ⟨by omega, by omega, by omega⟩)
  obtain ⟨rfl, _⟩ := h4
  have HP := Lib.hid (show Calls Tryd.prog 30 #[.pointer (some ⟨w.heap.size, 0, none⟩), .string ⟨#[105, 115]⟩] w4 (fun e w' => e = .returned (.tuple #[.agg #[.string ⟨#[105, 115]⟩, .int .i64 2, .int .i64 700], .bool true]) ∧ Below w4.heap.size w4 w') from by
    have h := Prefix_any HT4.out (s := ⟨#[105, 115]⟩) (by decide)
    have e : Ho.find (Ho.add L0 700 2 [105, 115]) (0 + 1) (⟨#[105, 115]⟩ : ByteArray).data.toList = some ⟨[105, 115], 2, 700⟩ := find_is2
    rw [e] at h
    exact h)
  go_wp2_with fail
  (with_reducible refine HP.out.mono ?_)
  rintro ex w5 ⟨rfl, hb5⟩
  have hg2 : g2 < w4.heap.size := (Array.getElem?_eq_some_iff.1 HC4.out).1
  have HC5 := Lib.hid ((((hb5.alloc hb5.size (.cells #[.string ⟨#[105, 115]⟩, .int .i64 2, .int .i64 700] 23)).block g2 hg2)).trans HC4.out)
  have HD5 := Lib.hid (heap_alloc_new w5 (.cells #[.string ⟨#[105, 115]⟩, .int .i64 2, .int .i64 700] 23))
  have HB5 := Lib.hid (HB4.out.trans ((hb5.alloc hb5.size (.cells #[.string ⟨#[105, 115]⟩, .int .i64 2, .int .i64 700] 23)).mono HB4.out.size))
  clear hb5
  go_upto_region 8 with fail
  generalize w5.alloc (.cells #[.string ⟨#[105, 115]⟩, .int .i64 2, .int .i64 700] 23) = W5 at *
  generalize w5.heap.size = g5 at *
  have q0 : W5.cell? ⟨g2, 0, none⟩ = some (.string ⟨#[105, 115]⟩) := by rw [cell_of_row W5 g2 0 _ _ (0, 0) HC5.out]; rfl
  have q1 : W5.cell? ⟨g2, 1, none⟩ = some (.int .i64 3) := by rw [cell_of_row W5 g2 1 _ _ (0, 0) HC5.out]; rfl
  have q2 : W5.cell? ⟨g2, 2, none⟩ = some (.int .i64 700) := by rw [cell_of_row W5 g2 2 _ _ (0, 0) HC5.out]; rfl
  have HS := Lib.hid (show Calls Tryd.prog 9 #[.agg #[.string ⟨#[105, 115]⟩, .int .i64 3, .int .i64 700]] W5 (fun e w' => e = .returned (.tuple #[.int .i64 699, .int .i64 699]) ∧ Below W5.heap.size W5 w') from by
    have h := Sides_any ⟨#[105, 115]⟩ 3 700 W5
    rw [show sides 3 700 = (699, 699) from by decide +kernel] at h
    exact h)
  go_wp2_with fail
  (with_reducible refine HS.out.mono ?_)
  rintro ex w6 ⟨rfl, hb6⟩
  have HC6 := Lib.hid ((hb6.block g2 (Array.getElem?_eq_some_iff.1 HC5.out).1).trans HC5.out)
  have HD6 := Lib.hid ((hb6.block g5 (Array.getElem?_eq_some_iff.1 HD5.out).1).trans HD5.out)
  have HB6 := Lib.hid (HB5.out.trans (hb6.mono HB5.out.size))
  clear hb6 q0 q1 q2
  have q0 : w6.cell? ⟨g2, 0, none⟩ = some (.string ⟨#[105, 115]⟩) := by rw [cell_of_row w6 g2 0 _ _ (0, 0) HC6.out]; rfl
  have q1 : w6.cell? ⟨g2, 1, none⟩ = some (.int .i64 3) := by rw [cell_of_row w6 g2 1 _ _ (0, 0) HC6.out]; rfl
  have q2 : w6.cell? ⟨g2, 2, none⟩ = some (.int .i64 700) := by rw [cell_of_row w6 g2 2 _ _ (0, 0) HC6.out]; rfl
  have p0 : w6.cell? ⟨g5, 0, none⟩ = some (.string ⟨#[105, 115]⟩) := by rw [cell_of_row w6 g5 0 _ _ (0, 0) HD6.out]; rfl
  have p1 : w6.cell? ⟨g5, 1, none⟩ = some (.int .i64 2) := by rw [cell_of_row w6 g5 1 _ _ (0, 0) HD6.out]; rfl
  have p2 : w6.cell? ⟨g5, 2, none⟩ = some (.int .i64 700) := by rw [cell_of_row w6 g5 2 _ _ (0, 0) HD6.out]; rfl
  have HTy := Lib.hid (fun w1 (hb : Below w.heap.size w w1) => show Calls Tryd.prog 11 #[.string ⟨#[120, 102, 120]⟩] w1 (fun e w' => e = .returned (.int .i64 3) ∧ Below w1.heap.size w1 w') from by
    have h := Type_any ⟨#[120, 102, 120]⟩ (HT.out w1 hb)
    rw [show ix typeWords (⟨#[120, 102, 120]⟩ : ByteArray).data.toList + 1 = 3 by decide +kernel] at h
    exact h)
  have HWd := Lib.hid (fun w1 (hb : Below w.heap.size w w1) => show Calls Tryd.prog 13 #[.int .i64 7] w1 (fun e w' => e = .returned (.string ⟨#[121, 102]⟩) ∧ Below w1.heap.size w1 w') from by
    have h := Word_any 7 (HT.out w1 hb)
    exact h)
  go_wp2_with fail
  (with_reducible refine (HTy.out _ HB6.out).mono ?_)
  rintro ex w7 ⟨rfl, hb7⟩
  have HB7 := Lib.hid (HB6.out.trans (hb7.mono HB6.out.size))
  clear hb7 q0 q1 q2 p0 p1 p2
  go_wp2_with fail
  (with_reducible refine (HWd.out _ HB7.out).mono ?_)
  rintro ex w8 ⟨rfl, hb8⟩
  have HB8 := Lib.hid (HB7.out.trans (hb8.mono HB7.out.size))
  clear hb8
  go_wp2
  go_ret
  exact ⟨rfl, HB8.out⟩
end Go.Proofs.YtfdcponamkfcaaaDoor

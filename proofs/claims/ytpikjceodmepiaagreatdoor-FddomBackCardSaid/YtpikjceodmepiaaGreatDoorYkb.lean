import Derived.Test.YtpikjceodmepiaaGreatDoorYjb
set_option linter.unusedVariables false
set_option linter.unusedSimpArgs false
namespace Go.Proofs.YtpikjceodmepiaaGreatDoor
open Go.RowKit Hb Hf
set_option linter.unusedVariables false
set_option linter.unusedSimpArgs false
attribute [local go_sem ↓] Go.wp_at_zero Go.wp_at_succ
/-! ### fine -/
def lngB (b : Bd) : Bool := decide (b.i = 0) && decide (4096 < blen (nv W b.l))
def lngR (p : Rg) : Bool := lngB p.1 || lngB p.2
def longP (ps : List Rg) : Bool := ps.any lngR
def fineC (long ends : Bool) (n : Nat) : Int := if long then 10 else if !ends && decide (1000 < n) then 90 else 0
theorem longP_take {ps : List Rg} {k : Nat} {p : Rg} (hk : ps[k]? = some p) (h : longP (ps.take k) = false) (hp : lngR p = false) : longP (ps.take (k + 1)) = false := by
  rw [List.take_add_one, hk]
  simp [longP] at h ⊢
  exact ⟨h, hp⟩
theorem longP_some {ps : List Rg} {k : Nat} {p : Rg} (hk : ps[k]? = some p) (hp : lngR p = true) : longP ps = true := List.any_eq_true.2 ⟨p, List.mem_of_getElem? hk, hp⟩
set_option maxRecDepth 100000 in
set_option maxHeartbeats 4000000 in
theorem fine_any {w : World} {P : Nat → Prop} {A : Option Addr} {n c : Nat} {ps : List Rg} (ends : Bool) (h : SetP w P A n c ps) (hP : ∀ b, P b → b < w.heap.size) (hs : Szs ps) (hn : n ≤ 1073741824) :
    Calls Tryz.prog 72 #[.slice A n c, .bool ends] w (fun e w' => e = .returned (.int .i64 (fineC (longP ps) ends n)) ∧ Below w.heap.size w w') := by
  have HS := Lib.hid h
  have HP := Lib.hid hP
  have HSz := Lib.hid hs
  have HLn := Lib.hid h.row.len
  have hcap := h.row.cap
  have hmax := h.row.max
  unfold maxLen at hmax
  obtain ⟨B, hB⟩ : ∃ B, w.heap.size = B := ⟨_, rfl⟩
  have HB := Lib.hid hB
  rw [hB]
  have HB0 := Lib.hid (Below.refl B w)
  have HE : longP ps = true → fineC (longP ps) ends n = 10 := fun h => by rw [h]; rfl
  have HN : longP ps = false → ends = true → fineC (longP ps) ends n = 0 := fun h h2 => by rw [h, h2]; rfl
  have HN2 : longP ps = false → ends = false → 1000 < n → fineC (longP ps) ends n = 90 := fun h h2 h3 => by rw [h, h2]; simp [fineC, h3]
  have HN3 : longP ps = false → ends = false → ¬ 1000 < n → fineC (longP ps) ends n = 0 := fun h h2 h3 => by rw [h, h2]; simp [fineC, h3]
  generalize fineC (longP ps) ends n = code at *
  have HC := Lib.hid (And.intro HE (And.intro HN (And.intro HN2 HN3)))
  clear h hP hs hB HE HN HN2 HN3
  go_enter Tryz.func72, Tryz.ntmps72
  go_wp2_with fail
  go_loopw [9] (fun vi wr => ∃ k, k ≤ n ∧ vi = .int .i64 (k : Nat) ∧ Hid (Below B w wr ∧ longP (ps.take k) = false)) (fun vi _ => n - (intOf vi).toNat)
  case atStart => exact ⟨0, Nat.zero_le _, rfl, Lib.hid ⟨HB0.out, rfl⟩⟩
  case round =>
    obtain ⟨k, hk, rfl, HI⟩ := hrel
    clear HB0
    by_cases hkn : k < n
    · obtain ⟨p, hp⟩ : ∃ p, ps[k]? = some p := ⟨ps[k]'(by have := HLn.out; omega), by simp⟩
      obtain ⟨b, o, rfl, hPb, q0, q1, q2, q3, q4, q5⟩ := HS.out.row.at_ hp
      have hbB : b < B := by have := HP.out b hPb; have := HB.out; omega
      have HKid := Lib.hid (HS.out.kid p (List.mem_of_getElem? hp))
      have HSp := Lib.hid (HSz.out p (List.mem_of_getElem? hp))
      have HPk := Lib.hid hp
      have hblk := HI.out.1.block b hbB
      have i0 := (World.cell?_of_block (a := ⟨b, o + k * 6, none⟩) hblk).trans q0
      have i1 := (World.cell?_of_block (a := ⟨b, o + k * 6 + 1, none⟩) hblk).trans q1
      have i2 := (World.cell?_of_block (a := ⟨b, o + k * 6 + 2, none⟩) hblk).trans q2
      have i3 := (World.cell?_of_block (a := ⟨b, o + k * 6 + 3, none⟩) hblk).trans q3
      have i4 := (World.cell?_of_block (a := ⟨b, o + k * 6 + 4, none⟩) hblk).trans q4
      have i5 := (World.cell?_of_block (a := ⟨b, o + k * 6 + 5, none⟩) hblk).trans q5
      have HB1 := Lib.hid (fun (h0 : p.1.i = 0) (z : World) (hz : Below B w z) => bits_any p.1.g ((HKid.out.a.lim.sl HP.out).below (C := w.heap.size) (by rw [HB.out]; exact hz) (Nat.le_refl _)) (Nat.le_trans (HSp.out.1 h0) (by omega)) (by rw [HB.out]; exact Nat.le_trans (Nat.le_of_eq HB.out.symm) hz.size))
      have HB2 := Lib.hid (fun (h0 : p.2.i = 0) (z : World) (hz : Below B w z) => bits_any p.2.g ((HKid.out.b.lim.sl HP.out).below (C := w.heap.size) (by rw [HB.out]; exact hz) (Nat.le_refl _)) (Nat.le_trans (HSp.out.2 h0) (by omega)) (by rw [HB.out]; exact Nat.le_trans (Nat.le_of_eq HB.out.symm) hz.size))
      have r1 := HKid.out.a.r1
      have r2 := HKid.out.a.r2
      have r3 := HKid.out.b.r1
      have r4 := HKid.out.b.r2
      have HLg := Lib.hid (show lngR p = ((decide (p.1.i = 0) && decide (4096 < blen (nv W p.1.l))) || (decide (p.2.i = 0) && decide (4096 < blen (nv W p.2.l)))) from rfl)
      obtain ⟨⟨p1i, p1g, p1A, p1n, p1c, p1l⟩, ⟨p2i, p2g, p2A, p2n, p2c, p2l⟩⟩ := p
      have hX := RBox.new wr (⟨p1i, p1g, p1A, p1n, p1c, p1l⟩, ⟨p2i, p2g, p2A, p2n, p2c, p2l⟩)
      have HBx := Lib.hid (show Below B w (wr.alloc (.cells (cells6 (⟨p1i, p1g, p1A, p1n, p1c, p1l⟩, ⟨p2i, p2g, p2A, p2n, p2c, p2l⟩)).toArray 69)) from HI.out.1.alloc (Nat.le_trans (Nat.le_of_eq HB.out.symm) HI.out.1.size) _)
      have HX := Lib.hid hX
      simp only at HB1 HB2 HLg r1 r2 r3 r4
      simp only [cells6_eq] at HX HBx i0 i1 i2 i3 i4 i5
      generalize blen (nv W p1l) = x at *
      generalize blen (nv W p2l) = y at *
      obtain ⟨y0, y1, y2, y3, y4, y5⟩ := HX.out.cells
      have hki : (k : Int) < (n : Int) := by omega
      have hk0 : (0 : Int) ≤ (k : Int) := by omega
      simp only at y0 y1 y2 y3 y4 y5
      clear hp q0 q1 q2 q3 q4 q5 hblk hX HKid HSp
      have hxx : x ≤ 4096 ∨ 4096 < x := by omega
      have hyy : y ≤ 4096 ∨ 4096 < y := by omega
      have h1 : ¬ p1i = 0 ∨ (p1i = 0 ∧ x ≤ 4096) ∨ (p1i = 0 ∧ 4096 < x) := by omega
      have h2 : ¬ p2i = 0 ∨ (p2i = 0 ∧ y ≤ 4096) ∨ (p2i = 0 ∧ 4096 < y) := by omega
      clear hxx hyy
      rcases h1 with c1 | ⟨rfl, c1⟩ | ⟨rfl, c1⟩
      · have d1 : (p1i == 0) = false := beq_eq_false_iff_ne.2 c1
        have HZ1 := Lib.hid HBx.out
        have HX6 := Lib.hid HX.out
        rcases h2 with c2 | ⟨rfl, c2⟩ | ⟨rfl, c2⟩
        · have d3 : (p2i == 0) = false := beq_eq_false_iff_ne.2 c2
          go_wp2_with fail
          go_roundw
          case rel => exact ⟨k + 1, by omega, by go_num, Lib.hid ⟨HZ1.out, longP_take HPk.out HI.out.2 (by rw [HLg.out]; simp [c1, c2])⟩⟩
          case measure => simp [intOf]; omega
        · have d4 : decide (4096 < (y : Int)) = false := decide_eq_false (by omega)
          go_wp2_with (go_at_call 67; (with_reducible refine (HB2.out (by trivial) _ HZ1.out).mono ?_); rintro e w8 ⟨rfl, hb8⟩; have HZ2 := Lib.hid (HZ1.out.trans (hb8.mono (Nat.le_trans (Nat.le_of_eq HB.out.symm) HZ1.out.size))); have HX8 := Lib.hid (HX6.out.below hb8); clear y0 y1 y2 y3 y4 y5; obtain ⟨y0, y1, y2, y3, y4, y5⟩ := HX8.out.cells; clear hb8)
          go_roundw
          case rel => exact ⟨k + 1, by omega, by go_num, Lib.hid ⟨HZ2.out, longP_take HPk.out HI.out.2 (by rw [HLg.out]; simp [c1, c2])⟩⟩
          case measure => simp [intOf]; omega
        · have d4 : decide (4096 < (y : Int)) = true := decide_eq_true (by omega)
          go_wp2_with (go_at_call 67; (with_reducible refine (HB2.out (by trivial) _ HZ1.out).mono ?_); rintro e w8 ⟨rfl, hb8⟩; have HZ2 := Lib.hid (HZ1.out.trans (hb8.mono (Nat.le_trans (Nat.le_of_eq HB.out.symm) HZ1.out.size))); have HX8 := Lib.hid (HX6.out.below hb8); clear y0 y1 y2 y3 y4 y5; obtain ⟨y0, y1, y2, y3, y4, y5⟩ := HX8.out.cells; clear hb8)
          go_ret
          exact ⟨ret_int (HC.out.1 (longP_some HPk.out (by rw [HLg.out]; simp [c2]))).symm, HZ2.out⟩
      · have d2 : decide (4096 < (x : Int)) = false := decide_eq_false (by omega)
        have HZ1 := Lib.hid HBx.out
        have HX6 := Lib.hid HX.out
        rcases h2 with c2 | ⟨rfl, c2⟩ | ⟨rfl, c2⟩
        · have d3 : (p2i == 0) = false := beq_eq_false_iff_ne.2 c2
          go_wp2_with (go_at_call 67; (with_reducible refine (HB1.out (by trivial) _ HZ1.out).mono ?_); rintro e w7 ⟨rfl, hb7⟩; have HZ2 := Lib.hid (HZ1.out.trans (hb7.mono (Nat.le_trans (Nat.le_of_eq HB.out.symm) HZ1.out.size))); have HX7 := Lib.hid (HX6.out.below hb7); clear y0 y1 y2 y3 y4 y5; obtain ⟨y0, y1, y2, y3, y4, y5⟩ := HX7.out.cells; clear hb7)
          go_roundw
          case rel => exact ⟨k + 1, by omega, by go_num, Lib.hid ⟨HZ2.out, longP_take HPk.out HI.out.2 (by rw [HLg.out]; simp [c1, c2])⟩⟩
          case measure => simp [intOf]; omega
        · have d4 : decide (4096 < (y : Int)) = false := decide_eq_false (by omega)
          go_wp2_with (first | (go_at_call 67; (with_reducible refine (HB1.out (by trivial) _ HZ1.out).mono ?_); rintro e w7 ⟨rfl, hb7⟩; have HZ2 := Lib.hid (HZ1.out.trans (hb7.mono (Nat.le_trans (Nat.le_of_eq HB.out.symm) HZ1.out.size))); have HX7 := Lib.hid (HX6.out.below hb7); clear y0 y1 y2 y3 y4 y5; obtain ⟨y0, y1, y2, y3, y4, y5⟩ := HX7.out.cells; clear hb7) | (go_at_call 67; (with_reducible refine (HB2.out (by trivial) _ HZ2.out).mono ?_); rintro e w8 ⟨rfl, hb8⟩; have HZ3 := Lib.hid (HZ2.out.trans (hb8.mono (Nat.le_trans (Nat.le_of_eq HB.out.symm) HZ2.out.size))); have HX8 := Lib.hid (HX7.out.below hb8); clear y0 y1 y2 y3 y4 y5; obtain ⟨y0, y1, y2, y3, y4, y5⟩ := HX8.out.cells; clear hb8))
          go_roundw
          case rel => exact ⟨k + 1, by omega, by go_num, Lib.hid ⟨HZ3.out, longP_take HPk.out HI.out.2 (by rw [HLg.out]; simp [c1, c2])⟩⟩
          case measure => simp [intOf]; omega
        · have d4 : decide (4096 < (y : Int)) = true := decide_eq_true (by omega)
          go_wp2_with (first | (go_at_call 67; (with_reducible refine (HB1.out (by trivial) _ HZ1.out).mono ?_); rintro e w7 ⟨rfl, hb7⟩; have HZ2 := Lib.hid (HZ1.out.trans (hb7.mono (Nat.le_trans (Nat.le_of_eq HB.out.symm) HZ1.out.size))); have HX7 := Lib.hid (HX6.out.below hb7); clear y0 y1 y2 y3 y4 y5; obtain ⟨y0, y1, y2, y3, y4, y5⟩ := HX7.out.cells; clear hb7) | (go_at_call 67; (with_reducible refine (HB2.out (by trivial) _ HZ2.out).mono ?_); rintro e w8 ⟨rfl, hb8⟩; have HZ3 := Lib.hid (HZ2.out.trans (hb8.mono (Nat.le_trans (Nat.le_of_eq HB.out.symm) HZ2.out.size))); have HX8 := Lib.hid (HX7.out.below hb8); clear y0 y1 y2 y3 y4 y5; obtain ⟨y0, y1, y2, y3, y4, y5⟩ := HX8.out.cells; clear hb8))
          go_ret
          exact ⟨ret_int (HC.out.1 (longP_some HPk.out (by rw [HLg.out]; simp [c2]))).symm, HZ3.out⟩
      · have d2 : decide (4096 < (x : Int)) = true := decide_eq_true (by omega)
        have HZ1 := Lib.hid HBx.out
        have HX6 := Lib.hid HX.out
        clear h2
        go_wp2_with (go_at_call 67; (with_reducible refine (HB1.out (by trivial) _ HZ1.out).mono ?_); rintro e w7 ⟨rfl, hb7⟩; have HZ2 := Lib.hid (HZ1.out.trans (hb7.mono (Nat.le_trans (Nat.le_of_eq HB.out.symm) HZ1.out.size))); have HX7 := Lib.hid (HX6.out.below hb7); clear y0 y1 y2 y3 y4 y5; obtain ⟨y0, y1, y2, y3, y4, y5⟩ := HX7.out.cells; clear hb7)
        go_ret
        exact ⟨ret_int (HC.out.1 (longP_some HPk.out (by rw [HLg.out]; simp [c1]))).symm, HZ2.out⟩
    · have hkn2 : k = n := by omega
      have hki : ¬ (k : Int) < (n : Int) := by omega
      have HF := Lib.hid (show longP ps = false by have := HI.out.2; rwa [List.take_of_length_le (by have := HLn.out; omega)] at this)
      clear hkn2
      cases ends
      · by_cases h9 : 1000 < n
        · have d1 : decide (1000 < (n : Int)) = true := decide_eq_true (by omega)
          go_wp2_with fail
          go_ret
          exact ⟨ret_int (HC.out.2.2.1 HF.out (by trivial) h9).symm, HI.out.1⟩
        · have d1 : decide (1000 < (n : Int)) = false := decide_eq_false (by omega)
          go_wp2_with fail
          go_ret
          exact ⟨ret_int (HC.out.2.2.2 HF.out (by trivial) h9).symm, HI.out.1⟩
      · go_wp2_with fail
        go_ret
        exact ⟨ret_int (HC.out.2.1 HF.out (by trivial)).symm, HI.out.1⟩
end Go.Proofs.YtpikjceodmepiaaGreatDoor


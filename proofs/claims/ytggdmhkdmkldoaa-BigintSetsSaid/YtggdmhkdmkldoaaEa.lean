import Derived.Test.YtggdmhkdmkldoaaCw
import Derived.Test.YtggdmhkdmkldoaaSh
import Derived.IntWalk
namespace Go.Proofs.Ytggdmhkdmkldoaa
open Go.RowKit Hb

set_option maxRecDepth 100000 in
set_option maxHeartbeats 2000000 in
theorem Shift_long (neg : Bool) {B : Nat} {A : Option Addr} {l : List Nat} {n c : Nat} {w : World} (hs : SlU w B A n c l) (hn : n ≤ 67108000) (hB : B ≤ w.heap.size) (hlg : lng l = true) (k z : Int) :
    Calls Try.prog 55 #[.agg #[.bool neg, .slice A n c], .int .i64 k] w (PostC w z 10) := by
  have HL := Lib.hid (P1w_long (neg := neg) hs (by omega) hB)
  rw [hlg] at HL
  clear hs hn hB hlg
  go_enter Try.func55, Try.ntmps55
  go_wp2_with fail
  refine HL.out.mono ?_
  rintro ex w3 ⟨rfl, hb3⟩
  obtain ⟨h1, h2, h3, h4⟩ := P1w_after hb3
  obtain ⟨a0, a1, _, _⟩ := h1.facts
  obtain ⟨r0, r1, r2, r3⟩ := h2.facts
  have H1 := Lib.hid h1
  have H2 := Lib.hid h2
  have H3 := Lib.hid h3
  clear h1 h2 h3 hb3
  go_wp2
  exact bodyPost_ret (v := .tuple #[zeroV, .int .i64 10]) (by simp [results, Try.results55, go_sem, r0, r1]) rfl
    (PostC.bad rfl (by decide) ((H3.out.setCell (by simp) _).setCell (by simp) _))

set_option maxRecDepth 100000 in
set_option maxHeartbeats 2000000 in
theorem Shift_nought (neg : Bool) {B : Nat} {A : Option Addr} {l : List Nat} {n c : Nat} {w : World} (hs : SlU w B A n c l) (hn : n ≤ 67108000) (hB : B ≤ w.heap.size) (hlg : lng l = false) (h0 : ival neg l = 0) (k : Int) :
    Calls Try.prog 55 #[.agg #[.bool neg, .slice A n c], .int .i64 k] w (PostC w 0 0) := by
  have HL := Lib.hid (P1w_long (neg := neg) hs (by omega) hB)
  rw [hlg] at HL
  obtain ⟨s, hsg⟩ : ∃ s, (ival neg l).sign = s := ⟨_, rfl⟩
  have HSg : Hid (∀ w1, Below w.heap.size w w1 → Calls Try.prog 42 #[.agg #[.bool neg, .slice A n c]] w1 (CmpZPost s w1)) := Lib.hid (fun w1 hb => by rw [← hsg]; exact sign_any neg (hs.below (C := w.heap.size) hb hB) (Nat.le_trans hB hb.size))
  have hs0 : (s == 0) = true := by rw [← hsg, h0]; rfl
  clear hs hn hB hlg h0 hsg
  go_enter Try.func55, Try.ntmps55
  go_wp2_with fail
  refine HL.out.mono ?_
  rintro ex w3 ⟨rfl, hb3⟩
  obtain ⟨h1, h2, h3, h4⟩ := P1w_after hb3
  obtain ⟨a0, a1, _, _⟩ := h1.facts
  obtain ⟨r0, r1, r2, r3⟩ := h2.facts
  have H1 := Lib.hid h1
  have H2 := Lib.hid h2
  have H3 := Lib.hid h3
  clear h1 h2 h3 hb3
  go_wp2_with fail
  refine (HSg.out _ H3.out).mono ?_
  rintro ex w4 ⟨rfl, hb4⟩
  have hz4 := hb4.size
  replace H1 := Lib.hid (H1.out.below hb4 (by omega))
  replace H2 := Lib.hid (H2.out.below hb4 (by omega))
  replace H3 := Lib.hid (H3.out.trans (hb4.mono (by omega)))
  clear hb4 a0 a1 r0 r1 r2 r3
  obtain ⟨a0, a1, _, _⟩ := H1.out.facts
  obtain ⟨r0, r1, r2, r3⟩ := H2.out.facts
  go_wp2
  exact bodyPost_ret (v := .tuple #[zeroV, .int .i64 0]) (by simp [results, Try.results55, go_sem, r0, r1]) rfl
    (PostC.ok rfl (ResI.zero _ _) ((H3.out.setCell (by simp) _).setCell (by simp) _))

set_option maxRecDepth 100000 in
set_option maxHeartbeats 2000000 in
theorem Shift_great (neg : Bool) {B : Nat} {A : Option Addr} {l : List Nat} {n c : Nat} {w : World} (hs : SlU w B A n c l) (hn : n ≤ 67108000) (hB : B ≤ w.heap.size) (hlg : lng l = false) (h0 : ival neg l ≠ 0) (k : Nat) (bl : Nat) (hbl : blen (nv W l) = bl) (hg : 4096 < bl + k) (z : Int) :
    Calls Try.prog 55 #[.agg #[.bool neg, .slice A n c], .int .i64 (k : Int)] w (PostC w z 10) := by
  have HL := Lib.hid (P1w_long (neg := neg) hs (by omega) hB)
  rw [hlg] at HL
  obtain ⟨s, hsg⟩ : ∃ s, (ival neg l).sign = s := ⟨_, rfl⟩
  have HSg : Hid (∀ w1, Below w.heap.size w w1 → Calls Try.prog 42 #[.agg #[.bool neg, .slice A n c]] w1 (CmpZPost s w1)) := Lib.hid (fun w1 hb => by rw [← hsg]; exact sign_any neg (hs.below (C := w.heap.size) hb hB) (Nat.le_trans hB hb.size))
  have hs0 : (s == 0) = false := beq_eq_false_iff_ne.2 (fun e => h0 (Int.sign_eq_zero_iff_zero.1 (hsg.trans e)))
  have HBt : Hid (∀ w1, Below w.heap.size w w1 → Calls Try.prog 45 #[.agg #[.bool neg, .slice A n c]] w1 (CmpZPost (bl : Int) w1)) := Lib.hid (fun w1 hb => by rw [← hbl]; exact bits_any neg (hs.below (C := w.heap.size) hb hB) (by omega) (Nat.le_trans hB hb.size))
  have hk0 : (0 : Int) ≤ (k : Int) := by omega
  have hb4 : bl ≤ 4096 := by have := of_decide_eq_false hlg; omega
  clear hs hn hB hlg h0 hsg hbl
  by_cases hk : 4096 < k
  · have d1 : decide ((4096 : Int) < (k : Int)) = true := decide_eq_true (by omega)
    have d2 : decide (4096 < k) = true := decide_eq_true hk
    go_enter Try.func55, Try.ntmps55
    go_wp2_with fail
    refine HL.out.mono ?_
    rintro ex w3 ⟨rfl, hb3⟩
    obtain ⟨h1, h2, h3, h4⟩ := P1w_after hb3
    obtain ⟨a0, a1, _, _⟩ := h1.facts
    obtain ⟨r0, r1, r2, r3⟩ := h2.facts
    have H1 := Lib.hid h1
    have H2 := Lib.hid h2
    have H3 := Lib.hid h3
    clear h1 h2 h3 hb3
    go_wp2_with fail
    refine (HSg.out _ H3.out).mono ?_
    rintro ex w4 ⟨rfl, hb4⟩
    have hz4 := hb4.size
    replace H1 := Lib.hid (H1.out.below hb4 (by omega))
    replace H2 := Lib.hid (H2.out.below hb4 (by omega))
    replace H3 := Lib.hid (H3.out.trans (hb4.mono (by omega)))
    clear hb4 a0 a1 r0 r1 r2 r3
    obtain ⟨a0, a1, _, _⟩ := H1.out.facts
    obtain ⟨r0, r1, r2, r3⟩ := H2.out.facts
    go_wp2
    exact bodyPost_ret (v := .tuple #[zeroV, .int .i64 10]) (by simp [results, Try.results55, go_sem, r0, r1]) rfl
      (PostC.bad rfl (by decide) ((H3.out.setCell (by simp) _).setCell (by simp) _))
  · have d1 : decide ((4096 : Int) < (k : Int)) = false := decide_eq_false (by omega)
    have d2 : decide (4096 < k) = false := decide_eq_false hk
    have d3 : decide ((4096 : Int) < (bl : Int) + (k : Int)) = true := decide_eq_true (by omega)
    go_enter Try.func55, Try.ntmps55
    go_wp2_with fail
    refine HL.out.mono ?_
    rintro ex w3 ⟨rfl, hb3⟩
    obtain ⟨h1, h2, h3, h4⟩ := P1w_after hb3
    obtain ⟨a0, a1, _, _⟩ := h1.facts
    obtain ⟨r0, r1, r2, r3⟩ := h2.facts
    have H1 := Lib.hid h1
    have H2 := Lib.hid h2
    have H3 := Lib.hid h3
    clear h1 h2 h3 hb3
    go_wp2_with fail
    refine (HSg.out _ H3.out).mono ?_
    rintro ex w4 ⟨rfl, hb4⟩
    have hz4 := hb4.size
    replace H1 := Lib.hid (H1.out.below hb4 (by omega))
    replace H2 := Lib.hid (H2.out.below hb4 (by omega))
    replace H3 := Lib.hid (H3.out.trans (hb4.mono (by omega)))
    clear hb4 a0 a1 r0 r1 r2 r3
    obtain ⟨a0, a1, _, _⟩ := H1.out.facts
    obtain ⟨r0, r1, r2, r3⟩ := H2.out.facts
    go_wp2_with fail
    refine (HBt.out _ H3.out).mono ?_
    rintro ex w5 ⟨rfl, hb5⟩
    have hz5 := hb5.size
    replace H1 := Lib.hid (H1.out.below hb5 (by omega))
    replace H2 := Lib.hid (H2.out.below hb5 (by omega))
    replace H3 := Lib.hid (H3.out.trans (hb5.mono (by omega)))
    clear hb5 a0 a1 r0 r1 r2 r3
    obtain ⟨a0, a1, _, _⟩ := H1.out.facts
    obtain ⟨r0, r1, r2, r3⟩ := H2.out.facts
    go_wp2
    exact bodyPost_ret (v := .tuple #[zeroV, .int .i64 10]) (by simp [results, Try.results55, go_sem, r0, r1]) rfl
      (PostC.bad rfl (by decide) ((H3.out.setCell (by simp) _).setCell (by simp) _))
end Go.Proofs.Ytggdmhkdmkldoaa

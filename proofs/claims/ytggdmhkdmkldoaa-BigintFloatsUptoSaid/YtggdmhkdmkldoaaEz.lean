import Derived.Test.YtggdmhkdmkldoaaCw
import Derived.Test.YtggdmhkdmkldoaaSh
import Derived.IntWalk
import Derived.Test.YtggdmhkdmkldoaaBits
import Derived.Test.YtggdmhkdmkldoaaPe
namespace Go.Proofs.Ytggdmhkdmkldoaa
open Go.RowKit Hb

set_option maxRecDepth 100000 in
set_option maxHeartbeats 2000000 in
theorem Shift_long (neg : Bool) {B : Nat} {A : Option Addr} {l : List Nat} {n c : Nat} {w : World} (hs : SlU w B A n c l) (hn : n ≤ 67108000) (hB : B ≤ w.heap.size) (hlg : lng l = true) (k z : Int) :
    Calls Try.prog 55 #[.agg #[.bool neg, .slice A n c], .int .i64 k] w (PostC w z 10) := by
  have HL := Lib.hid (P1w_long (neg := neg) hs (by omega) hB)
  rw [hlg] at HL
  clear hs hn hB hlg
  go_enter Try.func55, Try.ntmps55
  go_wp2_with fail
  refine HL.out.mono ?_
  rintro ex w3 ⟨rfl, hb3⟩
  obtain ⟨h1, h2, h3, h4⟩ := P1w_after hb3
  obtain ⟨a0, a1, _, _⟩ := h1.facts
  obtain ⟨r0, r1, r2, r3⟩ := h2.facts
  have H1 := Lib.hid h1
  have H2 := Lib.hid h2
  have H3 := Lib.hid h3
  clear h1 h2 h3 hb3
  go_wp2
  exact bodyPost_ret (v := .tuple #[zeroV, .int .i64 10]) (by simp [results, Try.results55, go_sem, r0, r1]) rfl
    (PostC.bad rfl (by decide) ((H3.out.setCell (by simp) _).setCell (by simp) _))

set_option maxRecDepth 100000 in
set_option maxHeartbeats 2000000 in
theorem Shift_nought (neg : Bool) {B : Nat} {A : Option Addr} {l : List Nat} {n c : Nat} {w : World} (hs : SlU w B A n c l) (hn : n ≤ 67108000) (hB : B ≤ w.heap.size) (hlg : lng l = false) (h0 : ival neg l = 0) (k : Int) :
    Calls Try.prog 55 #[.agg #[.bool neg, .slice A n c], .int .i64 k] w (PostC w 0 0) := by
  have HL := Lib.hid (P1w_long (neg := neg) hs (by omega) hB)
  rw [hlg] at HL
  obtain ⟨s, hsg⟩ : ∃ s, (ival neg l).sign = s := ⟨_, rfl⟩
  have HSg : Hid (∀ w1, Below w.heap.size w w1 → Calls Try.prog 42 #[.agg #[.bool neg, .slice A n c]] w1 (CmpZPost s w1)) := Lib.hid (fun w1 hb => by rw [← hsg]; exact sign_any neg (hs.below (C := w.heap.size) hb hB) (Nat.le_trans hB hb.size))
  have hs0 : (s == 0) = true := by rw [← hsg, h0]; rfl
  clear hs hn hB hlg h0 hsg
  go_enter Try.func55, Try.ntmps55
  go_wp2_with fail
  refine HL.out.mono ?_
  rintro ex w3 ⟨rfl, hb3⟩
  obtain ⟨h1, h2, h3, h4⟩ := P1w_after hb3
  obtain ⟨a0, a1, _, _⟩ := h1.facts
  obtain ⟨r0, r1, r2, r3⟩ := h2.facts
  have H1 := Lib.hid h1
  have H2 := Lib.hid h2
  have H3 := Lib.hid h3
  clear h1 h2 h3 hb3
  go_wp2_with fail
  refine (HSg.out _ H3.out).mono ?_
  rintro ex w4 ⟨rfl, hb4⟩
  have hz4 := hb4.size
  replace H1 := Lib.hid (H1.out.below hb4 (by omega))
  replace H2 := Lib.hid (H2.out.below hb4 (by omega))
  replace H3 := Lib.hid (H3.out.trans (hb4.mono (by omega)))
  clear hb4 a0 a1 r0 r1 r2 r3
  obtain ⟨a0, a1, _, _⟩ := H1.out.facts
  obtain ⟨r0, r1, r2, r3⟩ := H2.out.facts
  go_wp2
  exact bodyPost_ret (v := .tuple #[zeroV, .int .i64 0]) (by simp [results, Try.results55, go_sem, r0, r1]) rfl
    (PostC.ok rfl (ResI.zero _ _) ((H3.out.setCell (by simp) _).setCell (by simp) _))

set_option maxRecDepth 100000 in
set_option maxHeartbeats 2000000 in
theorem Shift_great (neg : Bool) {B : Nat} {A : Option Addr} {l : List Nat} {n c : Nat} {w : World} (hs : SlU w B A n c l) (hn : n ≤ 67108000) (hB : B ≤ w.heap.size) (hlg : lng l = false) (h0 : ival neg l ≠ 0) (k : Nat) (bl : Nat) (hbl : blen (nv W l) = bl) (hg : 4096 < bl + k) (z : Int) :
    Calls Try.prog 55 #[.agg #[.bool neg, .slice A n c], .int .i64 (k : Int)] w (PostC w z 10) := by
  have HL := Lib.hid (P1w_long (neg := neg) hs (by omega) hB)
  rw [hlg] at HL
  obtain ⟨s, hsg⟩ : ∃ s, (ival neg l).sign = s := ⟨_, rfl⟩
  have HSg : Hid (∀ w1, Below w.heap.size w w1 → Calls Try.prog 42 #[.agg #[.bool neg, .slice A n c]] w1 (CmpZPost s w1)) := Lib.hid (fun w1 hb => by rw [← hsg]; exact sign_any neg (hs.below (C := w.heap.size) hb hB) (Nat.le_trans hB hb.size))
  have hs0 : (s == 0) = false := beq_eq_false_iff_ne.2 (fun e => h0 (Int.sign_eq_zero_iff_zero.1 (hsg.trans e)))
  have HBt : Hid (∀ w1, Below w.heap.size w w1 → Calls Try.prog 45 #[.agg #[.bool neg, .slice A n c]] w1 (CmpZPost (bl : Int) w1)) := Lib.hid (fun w1 hb => by rw [← hbl]; exact bits_any neg (hs.below (C := w.heap.size) hb hB) (by omega) (Nat.le_trans hB hb.size))
  have hk0 : (0 : Int) ≤ (k : Int) := by omega
  have hb4 : bl ≤ 4096 := by have := of_decide_eq_false hlg; omega
  clear hs hn hB hlg h0 hsg hbl
  by_cases hk : 4096 < k
  · have d1 : decide ((4096 : Int) < (k : Int)) = true := decide_eq_true (by omega)
    have d2 : decide (4096 < k) = true := decide_eq_true hk
    go_enter Try.func55, Try.ntmps55
    go_wp2_with fail
    refine HL.out.mono ?_
    rintro ex w3 ⟨rfl, hb3⟩
    obtain ⟨h1, h2, h3, h4⟩ := P1w_after hb3
    obtain ⟨a0, a1, _, _⟩ := h1.facts
    obtain ⟨r0, r1, r2, r3⟩ := h2.facts
    have H1 := Lib.hid h1
    have H2 := Lib.hid h2
    have H3 := Lib.hid h3
    clear h1 h2 h3 hb3
    go_wp2_with fail
    refine (HSg.out _ H3.out).mono ?_
    rintro ex w4 ⟨rfl, hb4⟩
    have hz4 := hb4.size
    replace H1 := Lib.hid (H1.out.below hb4 (by omega))
    replace H2 := Lib.hid (H2.out.below hb4 (by omega))
    replace H3 := Lib.hid (H3.out.trans (hb4.mono (by omega)))
    clear hb4 a0 a1 r0 r1 r2 r3
    obtain ⟨a0, a1, _, _⟩ := H1.out.facts
    obtain ⟨r0, r1, r2, r3⟩ := H2.out.facts
    go_wp2
    exact bodyPost_ret (v := .tuple #[zeroV, .int .i64 10]) (by simp [results, Try.results55, go_sem, r0, r1]) rfl
      (PostC.bad rfl (by decide) ((H3.out.setCell (by simp) _).setCell (by simp) _))
  · have d1 : decide ((4096 : Int) < (k : Int)) = false := decide_eq_false (by omega)
    have d2 : decide (4096 < k) = false := decide_eq_false hk
    have d3 : decide ((4096 : Int) < (bl : Int) + (k : Int)) = true := decide_eq_true (by omega)
    go_enter Try.func55, Try.ntmps55
    go_wp2_with fail
    refine HL.out.mono ?_
    rintro ex w3 ⟨rfl, hb3⟩
    obtain ⟨h1, h2, h3, h4⟩ := P1w_after hb3
    obtain ⟨a0, a1, _, _⟩ := h1.facts
    obtain ⟨r0, r1, r2, r3⟩ := h2.facts
    have H1 := Lib.hid h1
    have H2 := Lib.hid h2
    have H3 := Lib.hid h3
    clear h1 h2 h3 hb3
    go_wp2_with fail
    refine (HSg.out _ H3.out).mono ?_
    rintro ex w4 ⟨rfl, hb4⟩
    have hz4 := hb4.size
    replace H1 := Lib.hid (H1.out.below hb4 (by omega))
    replace H2 := Lib.hid (H2.out.below hb4 (by omega))
    replace H3 := Lib.hid (H3.out.trans (hb4.mono (by omega)))
    clear hb4 a0 a1 r0 r1 r2 r3
    obtain ⟨a0, a1, _, _⟩ := H1.out.facts
    obtain ⟨r0, r1, r2, r3⟩ := H2.out.facts
    go_wp2_with fail
    refine (HBt.out _ H3.out).mono ?_
    rintro ex w5 ⟨rfl, hb5⟩
    have hz5 := hb5.size
    replace H1 := Lib.hid (H1.out.below hb5 (by omega))
    replace H2 := Lib.hid (H2.out.below hb5 (by omega))
    replace H3 := Lib.hid (H3.out.trans (hb5.mono (by omega)))
    clear hb5 a0 a1 r0 r1 r2 r3
    obtain ⟨a0, a1, _, _⟩ := H1.out.facts
    obtain ⟨r0, r1, r2, r3⟩ := H2.out.facts
    go_wp2
    exact bodyPost_ret (v := .tuple #[zeroV, .int .i64 10]) (by simp [results, Try.results55, go_sem, r0, r1]) rfl
      (PostC.bad rfl (by decide) ((H3.out.setCell (by simp) _).setCell (by simp) _))
end Go.Proofs.Ytggdmhkdmkldoaa

namespace Go.Proofs.Ytggdmhkdmkldoaa
open Go.RowKit Hb

set_option maxRecDepth 100000 in
set_option maxHeartbeats 2000000 in
theorem Shift_up (neg : Bool) {B : Nat} {A : Option Addr} {l : List Nat} {n c : Nat} {w : World} (hs : SlU w B A n c l) (hn : n ≤ 67108000) (hB : B ≤ w.heap.size) (hlg : lng l = false) (h0 : ival neg l ≠ 0) (k : Nat) (bl : Nat) (hbl : blen (nv W l) = bl) (hg : bl + k ≤ 4096) (Z : Int) (hZ : ival neg l * 2 ^ k = Z) :
    Calls Try.prog 55 #[.agg #[.bool neg, .slice A n c], .int .i64 (k : Int)] w (PostC w Z 0) := by
  have HL := Lib.hid (P1w_long (neg := neg) hs (by omega) hB)
  rw [hlg] at HL
  obtain ⟨s, hsg⟩ : ∃ s, (ival neg l).sign = s := ⟨_, rfl⟩
  have HSg : Hid (∀ w1, Below w.heap.size w w1 → Calls Try.prog 42 #[.agg #[.bool neg, .slice A n c]] w1 (CmpZPost s w1)) := Lib.hid (fun w1 hb => by rw [← hsg]; exact sign_any neg (hs.below (C := w.heap.size) hb hB) (Nat.le_trans hB hb.size))
  have hs0 : (s == 0) = false := beq_eq_false_iff_ne.2 (fun e => h0 (Int.sign_eq_zero_iff_zero.1 (hsg.trans e)))
  have HBt : Hid (∀ w1, Below w.heap.size w w1 → Calls Try.prog 45 #[.agg #[.bool neg, .slice A n c]] w1 (CmpZPost (bl : Int) w1)) := Lib.hid (fun w1 hb => by rw [← hbl]; exact bits_any neg (hs.below (C := w.heap.size) hb hB) (by omega) (Nat.le_trans hB hb.size))
  have hk0 : (0 : Int) ≤ (k : Int) := by omega
  have d1 : decide ((4096 : Int) < (k : Int)) = false := decide_eq_false (by omega)
  have d2 : decide (4096 < k) = false := decide_eq_false (by omega)
  have d3 : decide ((4096 : Int) < (bl : Int) + (k : Int)) = false := decide_eq_false (by omega)
  have hb4 : bl ≤ 4096 := by omega
  have hk4 : k ≤ 4096 := by omega
  obtain ⟨q, hq⟩ : ∃ q, k / 32 = q := ⟨_, rfl⟩
  obtain ⟨r, hr⟩ : ∃ r, k % 32 = r := ⟨_, rfl⟩
  have hqI : (k : Int) / 32 = (q : Int) := by omega
  have hrI : (k : Int) % 32 = (r : Int) := by omega
  have hmk := makeU q (by omega)
  have HQ := Lib.hid (show q ≤ maxLen by unfold maxLen; omega)
  have HQ2 := Lib.hid (show q + (n + 1) ≤ 67108864 by omega)
  have HShl := Lib.hid (fun w1 (hb : Below w.heap.size w w1) => shl_any (s := r) (hs.below (C := w.heap.size) hb hB) (by omega) (Nat.le_trans hB hb.size) (by omega))
  have HV : Hid (∀ o, nv W o = nv W l * 2 ^ r → ival neg (List.replicate q 0 ++ o) = Z) := Lib.hid (fun o ho => by
    have h1 := nv_up l o k (by rw [hr]; exact ho)
    rw [hq] at h1
    rw [← hZ]
    unfold ival
    rw [h1, Int.natCast_mul, two_pow_cast]
    split
    · rw [Int.neg_mul]
    · rfl)
  clear hs hn hB hlg h0 hsg hbl hg hq hr hZ
  go_enter Try.func55, Try.ntmps55
  go_wp2_with fail
  refine HL.out.mono ?_
  rintro ex w3 ⟨rfl, hb3⟩
  obtain ⟨h1, h2, h3, h4⟩ := P1w_after hb3
  obtain ⟨a0, a1, _, _⟩ := h1.facts
  obtain ⟨r0, r1, r2, r3⟩ := h2.facts
  have H1 := Lib.hid h1
  have H2 := Lib.hid h2
  have H3 := Lib.hid h3
  clear h1 h2 h3 hb3
  go_wp2_with fail
  refine (HSg.out _ H3.out).mono ?_
  rintro ex w4 ⟨rfl, hb4⟩
  have hz4 := hb4.size
  replace H1 := Lib.hid (H1.out.below hb4 (by omega))
  replace H2 := Lib.hid (H2.out.below hb4 (by omega))
  replace H3 := Lib.hid (H3.out.trans (hb4.mono (by omega)))
  clear hb4 a0 a1 r0 r1 r2 r3
  obtain ⟨a0, a1, _, _⟩ := H1.out.facts
  obtain ⟨r0, r1, r2, r3⟩ := H2.out.facts
  go_wp2_with fail
  refine (HBt.out _ H3.out).mono ?_
  rintro ex w5 ⟨rfl, hb5⟩
  have hz5 := hb5.size
  replace H1 := Lib.hid (H1.out.below hb5 (by omega))
  replace H2 := Lib.hid (H2.out.below hb5 (by omega))
  replace H3 := Lib.hid (H3.out.trans (hb5.mono (by omega)))
  clear hb5 a0 a1 r0 r1 r2 r3
  obtain ⟨a0, a1, _, _⟩ := H1.out.facts
  obtain ⟨r0, r1, r2, r3⟩ := H2.out.facts
  go_upto_region 8 with fail
  have hS := Lib.hid (fun w' (hb : Below w5.heap.size w5 w') => And.intro (H1.out.below hb (Bx.lt H1.out)).facts.1 (H1.out.below hb (Bx.lt H1.out)).facts.2.1)
  have hT := Lib.hid (fun w' (hb : Below w5.heap.size w5 w') => H2.out.below hb (Bx.lt H2.out))
  have KK : Below w5.heap.size w5 w5.drew := (Below.refl _ _).drew
  refine wp_region_wait (fun w' => w'.cell? ⟨w.heap.size, 0, none⟩ = some (.bool neg) ∧ w'.cell? ⟨w.heap.size, 1, none⟩ = some (.slice A n c)) 12 (by kernel_rfl) ?_
  change wpAnyW _ _ _ _ _ _ _ _ _ w5.drew
  have zd : w5.heap.size ≤ w5.drew.heap.size := Nat.le_refl _
  generalize w5.drew = u0 at *
  have hqw : IntKind.i64.wrap (q : Int) = (q : Int) := IntWalk.i64_in _ (by omega)
  have hrt : (k : Int).tmod 32 = (r : Int) := by rw [Int.tmod_eq_emod_of_nonneg hk0]; exact hrI
  refine wpAnyW_take 12 (i := 0) (v := .pointer (some ⟨w.heap.size, 0, none⟩)) rfl (by kernel_rfl) (by kernel_rfl) (by kernel_rfl) (by kernel_rfl) (fun _ _ _ h => h) (Or.inl ⟨by kernel_rfl, fun w5 hSw => by go_simp⟩) (hS.out _ KK) ?_
  refine wpAnyW_take 12 (i := 1) (v := .bool neg) rfl (by kernel_rfl) (by kernel_rfl) (by kernel_rfl) (by kernel_rfl) (fun _ _ _ h => h) (Or.inl ⟨by kernel_rfl, fun w5 hSw => by go_simp⟩) (hS.out _ KK) ?_
  refine wpAnyW_take 12 (i := 2) (v := .int .i64 (k : Int)) rfl (by kernel_rfl) (by kernel_rfl) (by kernel_rfl) (by kernel_rfl) (fun _ _ _ h => h) (Or.inl ⟨by kernel_rfl, fun w5 hSw => by go_simp⟩) (hS.out _ KK) ?_
  refine wpAnyW_take 12 (i := 3) (v := .int .i64 (q : Int)) rfl (by kernel_rfl) (by kernel_rfl) (by kernel_rfl) (by kernel_rfl) (fun _ _ _ h => h) (Or.inl ⟨by kernel_rfl, fun w5 hSw => by go_simp⟩) (hS.out _ KK) ?_
  refine wpAnyW_take 12 (i := 5) (v := .pointer (some ⟨w.heap.size, 1, none⟩)) rfl (by kernel_rfl) (by kernel_rfl) (by kernel_rfl) (by kernel_rfl) (fun _ _ _ h => h) (Or.inl ⟨by kernel_rfl, fun w5 hSw => by go_simp⟩) (hS.out _ KK) ?_
  refine wpAnyW_take 12 (i := 6) (v := .slice A n c) rfl (by kernel_rfl) (by kernel_rfl) (by kernel_rfl) (by kernel_rfl) (fun _ _ _ h => h) (Or.inl ⟨by kernel_rfl, fun w5 hSw => by go_simp⟩) (hS.out _ KK) ?_
  refine wpAnyW_take 12 (i := 7) (v := .int .i64 (k : Int)) rfl (by kernel_rfl) (by kernel_rfl) (by kernel_rfl) (by kernel_rfl) (fun _ _ _ h => h) (Or.inl ⟨by kernel_rfl, fun w5 hSw => by go_simp⟩) (hS.out _ KK) ?_
  refine wpAnyW_take 12 (i := 8) (v := .int .i64 (r : Int)) rfl (by kernel_rfl) (by kernel_rfl) (by kernel_rfl) (by kernel_rfl) (fun _ _ _ h => h) (Or.inl ⟨by kernel_rfl, fun w5 hSw => by go_simp⟩) (hS.out _ KK) ?_
  refine wpAnyW_two (i := 4) (i2 := 9) (by kernel_rfl) rfl rfl (fun K hK => ?_) (fun K hK => ?_) 
  · go_simp
    have omk := own_zeros u0 q (B := w5.heap.size) KK.size HQ.out
    have zu1 : u0.heap.size < (u0.alloc (.cells (madeCells #[.int .u32 0] q) 48)).heap.size := by simp
    replace KK := Below.alloc KK KK.size (.cells (madeCells #[.int .u32 0] q) 48)
    refine hK.out _ _ (fun _ => hS.out _ KK) ?_
    generalize u0.alloc (.cells (madeCells #[.int .u32 0] q) 48) = u1 at *
    generalize u0.heap.size = g2 at *
    refine wpAnyW_one (i := 9) (by kernel_rfl) rfl (fun K hK => ?_)
    go_simp
    (with_reducible refine (HShl.out _ (H3.out.trans (KK.mono (by omega)))).mono ?_)
    rintro ex u3 ⟨rfl, o, hol, hod, _, hov, osh, hbb⟩
    replace omk := Own.below omk hbb (Nat.le_refl _)
    replace KK := KK.trans (hbb.mono KK.size)
    have zu3 := hbb.size
    have zzu3 := (own_block osh rfl).2
    replace osh := Own.sl osh hod hol
    clear hbb
    refine hK.out _ _ (fun _ => hS.out _ KK) ?_
    generalize u1.heap.size = g4 at *
    refine wpAnyW_one (i := 10) (by kernel_rfl) rfl (fun K hK => ?_)
    rw [if_pos (by kernel_rfl)]
    refine wp_append_far (base := w5.heap.size) (l0 := List.replicate q 0) (l := o) (A := some ⟨g4, 0, none⟩) (A0 := some ⟨g2, 0, none⟩) (n0 := q) (c0 := q) (m := n + 1) (c := n + 1) _ _ (by rfl) (by rfl) omk (by rfl) (fun h => by cases h) osh HQ2.out KK.size ?_
    intro Aap cap u5 oap hbb hff _
    replace KK := KK.trans (hbb.mono (Nat.le_refl _))
    clear hbb hff omk osh
    refine hK.out _ _ (fun _ => hS.out _ KK) ?_
    refine wpAnyW_one (i := 11) (by kernel_rfl) rfl (fun K hK => ?_)
    go_simp
    (with_reducible refine (laid_at neg oap (by rw [List.length_append, List.length_replicate, hol]) ((Dig.replicate _ _ (by decide)).append hod) (HV.out o hov)).mono ?_)
    rintro ex u6 ⟨rfl, ores, hbb⟩
    replace KK := KK.trans (hbb.mono KK.size)
    clear hbb oap
    refine hK.out _ _ (fun _ => hS.out _ KK) ?_
    refine wpAnyW_one (i := 12) (by kernel_rfl) rfl (fun K hK => ?_)
    obtain ⟨t0, t1, t2, t3⟩ := (hT.out _ KK).facts
    go_simp
    refine hK.out _ _ (fun h => absurd h (by simp)) ?_
    refine wpAnyW_one (i := 13) (by kernel_rfl) rfl (fun K hK => ?_)
    go_simp
    refine hK.out _ _ (fun h => absurd h (by simp)) ?_
    refine wpAnyW_done (by kernel_rfl) ?_ _
    go_wp2
    exact bodyPost_ret (v := .tuple #[.agg #[.bool (decide (Z < 0)), .slice Aap (digs W Z.natAbs).length cap], .int .i64 0]) (by simp [results, Try.results55, go_sem, t0, t1]) rfl
      (PostC.ok rfl (ResI.stored (w := w) (g := w.heap.size + 1) ⟨Aap, cap, rfl, ores⟩ (H3.out.trans (KK.mono (B' := w.heap.size) H3.out.size)) (by omega) (by omega)).1 (ResI.stored (w := w) (g := w.heap.size + 1) ⟨Aap, cap, rfl, ores⟩ (H3.out.trans (KK.mono (B' := w.heap.size) H3.out.size)) (by omega) (by omega)).2)
  · go_simp
    (with_reducible refine (HShl.out _ (H3.out.trans (KK.mono (by omega)))).mono ?_)
    rintro ex u7 ⟨rfl, o, hol, hod, _, hov, osh, hbb⟩
    replace KK := KK.trans (hbb.mono KK.size)
    have zu7 := hbb.size
    have zzu7 := (own_block osh rfl).2
    replace osh := Own.sl osh hod hol
    clear hbb
    refine hK.out _ _ (fun _ => hS.out _ KK) ?_
    generalize u0.heap.size = g8 at *
    refine wpAnyW_one (i := 4) (by kernel_rfl) rfl (fun K hK => ?_)
    go_simp
    replace osh := SlU.to osh ((Below.refl u7.heap.size u7).alloc (Nat.le_refl _) (.cells (madeCells #[.int .u32 0] q) 48)) (Nat.le_refl _)
    have omk := own_zeros u7 q (B := w5.heap.size) KK.size HQ.out
    have zu9 : u7.heap.size < (u7.alloc (.cells (madeCells #[.int .u32 0] q) 48)).heap.size := by simp
    replace KK := Below.alloc KK KK.size (.cells (madeCells #[.int .u32 0] q) 48)
    refine hK.out _ _ (fun _ => hS.out _ KK) ?_
    generalize u7.alloc (.cells (madeCells #[.int .u32 0] q) 48) = u9 at *
    generalize u7.heap.size = g10 at *
    refine wpAnyW_one (i := 10) (by kernel_rfl) rfl (fun K hK => ?_)
    rw [if_pos (by kernel_rfl)]
    refine wp_append_far (base := w5.heap.size) (l0 := List.replicate q 0) (l := o) (A := some ⟨g8, 0, none⟩) (A0 := some ⟨g10, 0, none⟩) (n0 := q) (c0 := q) (m := n + 1) (c := n + 1) _ _ (by rfl) (by rfl) omk (by rfl) (fun h => by cases h) osh HQ2.out KK.size ?_
    intro Aap cap u11 oap hbb hff _
    replace KK := KK.trans (hbb.mono (Nat.le_refl _))
    clear hbb hff omk osh
    refine hK.out _ _ (fun _ => hS.out _ KK) ?_
    refine wpAnyW_one (i := 11) (by kernel_rfl) rfl (fun K hK => ?_)
    go_simp
    (with_reducible refine (laid_at neg oap (by rw [List.length_append, List.length_replicate, hol]) ((Dig.replicate _ _ (by decide)).append hod) (HV.out o hov)).mono ?_)
    rintro ex u12 ⟨rfl, ores, hbb⟩
    replace KK := KK.trans (hbb.mono KK.size)
    clear hbb oap
    refine hK.out _ _ (fun _ => hS.out _ KK) ?_
    refine wpAnyW_one (i := 12) (by kernel_rfl) rfl (fun K hK => ?_)
    obtain ⟨t0, t1, t2, t3⟩ := (hT.out _ KK).facts
    go_simp
    refine hK.out _ _ (fun h => absurd h (by simp)) ?_
    refine wpAnyW_one (i := 13) (by kernel_rfl) rfl (fun K hK => ?_)
    go_simp
    refine hK.out _ _ (fun h => absurd h (by simp)) ?_
    refine wpAnyW_done (by kernel_rfl) ?_ _
    go_wp2
    exact bodyPost_ret (v := .tuple #[.agg #[.bool (decide (Z < 0)), .slice Aap (digs W Z.natAbs).length cap], .int .i64 0]) (by simp [results, Try.results55, go_sem, t0, t1]) rfl
      (PostC.ok rfl (ResI.stored (w := w) (g := w.heap.size + 1) ⟨Aap, cap, rfl, ores⟩ (H3.out.trans (KK.mono (B' := w.heap.size) H3.out.size)) (by omega) (by omega)).1 (ResI.stored (w := w) (g := w.heap.size + 1) ⟨Aap, cap, rfl, ores⟩ (H3.out.trans (KK.mono (B' := w.heap.size) H3.out.size)) (by omega) (by omega)).2)
end Go.Proofs.Ytggdmhkdmkldoaa

namespace Go.Proofs.Ytggdmhkdmkldoaa
open Go.RowKit Hb

set_option maxRecDepth 100000 in
set_option maxHeartbeats 4000000 in
theorem Shift_down (neg : Bool) {B : Nat} {A : Option Addr} {l : List Nat} {n c : Nat} {w : World} (hs : SlU w B A n c l) (hn : n ≤ 67108000) (hB : B ≤ w.heap.size) (hlg : lng l = false) (h0 : ival neg l ≠ 0) (kk mm : Int) (m : Nat) (hmm : mm = -(m : Int)) (hm0 : 0 < m) (hm4 : m ≤ 4097) (hk : kk < 0) (hk2 : -9223372036854775808 ≤ kk) (hc1 : kk < -4096 → mm = -4097) (hc2 : ¬ kk < -4096 → mm = kk)  (Z : Int) (hZ : ival neg l / 2 ^ m = Z) :
    Calls Try.prog 55 #[.agg #[.bool neg, .slice A n c], .int .i64 kk] w (PostC w Z 0) := by
  have HL := Lib.hid (P1w_long (neg := neg) hs (by omega) hB)
  rw [hlg] at HL
  obtain ⟨s, hsg⟩ : ∃ s, (ival neg l).sign = s := ⟨_, rfl⟩
  have HSg : Hid (∀ w1, Below w.heap.size w w1 → Calls Try.prog 42 #[.agg #[.bool neg, .slice A n c]] w1 (CmpZPost s w1)) := Lib.hid (fun w1 hb => by rw [← hsg]; exact sign_any neg (hs.below (C := w.heap.size) hb hB) (Nat.le_trans hB hb.size))
  have hs0 : (s == 0) = false := beq_eq_false_iff_ne.2 (fun e => h0 (Int.sign_eq_zero_iff_zero.1 (hsg.trans e)))
  have d0 : decide ((0 : Int) ≤ kk) = false := decide_eq_false (by omega)
  have HC1 := Lib.hid (fun h : kk < -4096 => (hc1 h).symm)
  have HC2 := Lib.hid (fun h : ¬ kk < -4096 => (hc2 h).symm)
  have hm1 : -4097 ≤ mm := by omega
  have hm2 : mm < 0 := by omega
  have hneg : -mm = (m : Int) := by omega
  obtain ⟨q, hq⟩ : ∃ q, m / 32 = q := ⟨_, rfl⟩
  obtain ⟨r, hr⟩ : ∃ r, m % 32 = r := ⟨_, rfl⟩
  obtain ⟨p, hp⟩ : ∃ p, 2 ^ r = p := ⟨_, rfl⟩
  have hqI : (m : Int) / 32 = (q : Int) := by omega
  have hrI : (m : Int) % 32 = (r : Int) := by omega
  have hp32 : p < 4294967296 := by
    have : 2 ^ r < 2 ^ 32 := Nat.pow_lt_pow_right (by decide) (by omega)
    omega
  have hpI : (2 : Int) ^ r = (p : Int) := by rw [← hp]; simp
  have hpM : (p : Int) % 4294967296 = (p : Int) := by omega
  have HPW : Hid (IntKind.u32.wrap (p : Int) = (p : Int)) := Lib.hid (wrap_u32 p hp32)
  have hmk := makeU q (by omega)
  have HQ := Lib.hid (show q ≤ maxLen by unfold maxLen; omega)
  have HQ2 := Lib.hid (show q + 1 ≤ 67108864 by omega)
  have HP := Lib.hid (And.intro hp32 True.intro)
  obtain ⟨zp, hzp⟩ : ∃ z : Int, ((2 ^ m : Nat) : Int) = z := ⟨_, rfl⟩
  have hzd : Dig W (List.replicate q 0 ++ [p]) := by have := dig_two_pow m; rw [hq, hr, hp] at this; exact this
  have hzv : ival false (List.replicate q 0 ++ [p]) = zp := by
    have := Hb.nv_two m
    rw [hq, hr, hp] at this
    rw [← hzp]; unfold ival; rw [this]; rfl
  have HV := Lib.hid (And.intro hzd hzv)
  have hza : zp.natAbs = 2 ^ m := by rw [← hzp, Int.natAbs_natCast]
  have HPV := Lib.hid (show nv W (digs W zp.natAbs) = 2 ^ m by rw [nv_digs (by decide), hza])
  have HPn := Lib.hid (show (digs W zp.natAbs).length ≤ 129 by
    refine digs_length_le (k := 129) (by decide) ?_
    rw [hza, W_pow_eq]
    generalize hK9 : 32 * 129 = K9
    exact Nat.pow_lt_pow_right (by decide) (by omega))
  have HSl := Lib.hid (fun w1 (hb : Below w.heap.size w w1) => And.intro (hs.below (C := w.heap.size) hb hB) (Nat.le_trans hB hb.size))
  have HN := Lib.hid (show n ≤ 67108000 from hn)
  have hlen := hs.len
  have HLn := Lib.hid (show l.length = n from hlen)
  have HDl := Lib.hid hs.dig
  have hiv : ival neg l = if neg then -(nv W l : Int) else (nv W l : Int) := rfl
  have HZ := Lib.hid hZ
  have HIV := Lib.hid hiv
  clear hs hn hB hlg h0 hsg hZ hq hr hp hzp hzd hzv hza hmm hm0 hc1 hc2 hlen hiv hp32
  go_enter Try.func55, Try.ntmps55
  go_wp2_with fail
  refine HL.out.mono ?_
  rintro ex w3 ⟨rfl, hb3⟩
  obtain ⟨h1, h2, h3, h4⟩ := P1w_after hb3
  obtain ⟨a0, a1, _, _⟩ := h1.facts
  obtain ⟨r0, r1, r2, r3⟩ := h2.facts
  have H1 := Lib.hid h1
  have H2 := Lib.hid h2
  have H3 := Lib.hid h3
  clear h1 h2 h3 hb3
  go_wp2_with fail
  refine (HSg.out _ H3.out).mono ?_
  rintro ex w4 ⟨rfl, hb4⟩
  have hz4 := hb4.size
  replace H1 := Lib.hid (H1.out.below hb4 (by omega))
  replace H2 := Lib.hid (H2.out.below hb4 (by omega))
  replace H3 := Lib.hid (H3.out.trans (hb4.mono (by omega)))
  clear hb4 a0 a1 r0 r1 r2 r3
  obtain ⟨a0, a1, _, _⟩ := H1.out.facts
  obtain ⟨r0, r1, r2, r3⟩ := H2.out.facts
  go_upto_if 43 with fail
  go_cut [1] (fun s1 wx => s1 = .int .i64 mm ∧ w4 = wx)
  case first =>
    go_wp2_with fail
    all_goals
      go_meet
      first | exact ⟨by rw [HC1.out ‹_›], rfl⟩ | exact ⟨by rw [HC2.out (by omega)], rfl⟩
  obtain ⟨rfl, rfl⟩ := hcut
  clear HC1 HC2 d0 hk hk2
  go_upto_region 11 with fail
  go_cut [6] (fun s6 wx => ∃ g A2 c2, s6 = .pointer (some ⟨g, 0, none⟩) ∧ Bx wx g (.bool (decide (zp < 0))) (.slice A2 (digs W zp.natAbs).length c2) ∧ OwnU wx w4.heap.size A2 (digs W zp.natAbs).length c2 (u32s (digs W zp.natAbs)) ∧ Below w4.heap.size w4 wx ∧ w4.heap.size ≤ g)
  case first =>
      have KK : Below w4.heap.size w4 w4.drew := (Below.refl _ _).drew
      refine wp_region_wait (fun _ => True) 12 (by kernel_rfl) ?_
      change wpAnyW _ _ _ _ _ _ _ _ _ w4.drew
      have zd : w4.heap.size ≤ w4.drew.heap.size := Nat.le_refl _
      generalize w4.drew = u0 at *
      have hqw : IntKind.i64.wrap (q : Int) = (q : Int) := IntWalk.i64_in _ (by omega)
      have hmw : IntKind.i64.wrap (m : Int) = (m : Int) := IntWalk.i64_in _ (by omega)
      have hpw : IntKind.u32.wrap (p : Int) = (p : Int) := HPW.out
      have hrt : (m : Int).tmod 32 = (r : Int) := by rw [Int.tmod_eq_emod_of_nonneg (by omega)]; exact hrI
      refine wpAnyW_take 12 (i := 0) (v := .int .i64 mm) rfl (by kernel_rfl) (by kernel_rfl) (by kernel_rfl) (by kernel_rfl) (fun _ _ _ h => h) (Or.inl ⟨by kernel_rfl, fun w5 hSw => by go_simp⟩) trivial ?_
      refine wpAnyW_take 12 (i := 1) (v := .int .i64 (m : Int)) rfl (by kernel_rfl) (by kernel_rfl) (by kernel_rfl) (by kernel_rfl) (fun _ _ _ h => h) (Or.inl ⟨by kernel_rfl, fun w5 hSw => by go_simp⟩) trivial ?_
      refine wpAnyW_take 12 (i := 2) (v := .int .i64 (q : Int)) rfl (by kernel_rfl) (by kernel_rfl) (by kernel_rfl) (by kernel_rfl) (fun _ _ _ h => h) (Or.inl ⟨by kernel_rfl, fun w5 hSw => by go_simp⟩) trivial ?_
      refine wpAnyW_take 12 (i := 4) (v := .int .i64 mm) rfl (by kernel_rfl) (by kernel_rfl) (by kernel_rfl) (by kernel_rfl) (fun _ _ _ h => h) (Or.inl ⟨by kernel_rfl, fun w5 hSw => by go_simp⟩) trivial ?_
      refine wpAnyW_take 12 (i := 5) (v := .int .i64 (m : Int)) rfl (by kernel_rfl) (by kernel_rfl) (by kernel_rfl) (by kernel_rfl) (fun _ _ _ h => h) (Or.inl ⟨by kernel_rfl, fun w5 hSw => by go_simp⟩) trivial ?_
      refine wpAnyW_take 12 (i := 6) (v := .int .i64 (r : Int)) rfl (by kernel_rfl) (by kernel_rfl) (by kernel_rfl) (by kernel_rfl) (fun _ _ _ h => h) (Or.inl ⟨by kernel_rfl, fun w5 hSw => by go_simp⟩) trivial ?_
      refine wpAnyW_take 12 (i := 7) (v := .int .u32 (p : Int)) rfl (by kernel_rfl) (by kernel_rfl) (by kernel_rfl) (by kernel_rfl) (fun _ _ _ h => h) (Or.inl ⟨by kernel_rfl, fun w5 hSw => by go_simp⟩) trivial ?_
      refine wpAnyW_three (i := 3) (i2 := 8) (i3 := 11) (by kernel_rfl) rfl rfl rfl (fun K hK => ?_) (fun K hK => ?_) (fun K hK => ?_) 
      · go_simp
        have omk := own_zeros u0 q (B := w4.heap.size) KK.size HQ.out
        have zu13 : u0.heap.size < (u0.alloc (.cells (madeCells #[.int .u32 0] q) 48)).heap.size := by simp
        replace KK := Below.alloc KK KK.size (.cells (madeCells #[.int .u32 0] q) 48)
        refine hK.out _ _ (fun _ => trivial) ?_
        generalize u0.alloc (.cells (madeCells #[.int .u32 0] q) 48) = u13 at *
        generalize u0.heap.size = g14 at *
        refine wpAnyW_two (i := 8) (i2 := 11) (by kernel_rfl) rfl rfl (fun K hK => ?_) (fun K hK => ?_) 
        · go_simp
          replace omk := Own.alloc omk (.cells #[.int .u32 (p : Int)] 48)
          have obs := own_one u13 p (B := w4.heap.size) KK.size
          have zu15 : u13.heap.size < (u13.alloc (.cells #[.int .u32 (p : Int)] 48)).heap.size := by simp
          replace KK := Below.alloc KK KK.size (.cells #[.int .u32 (p : Int)] 48)
          refine hK.out _ _ (fun _ => trivial) ?_
          generalize u13.alloc (.cells #[.int .u32 (p : Int)] 48) = u15 at *
          generalize u13.heap.size = g16 at *
          refine wpAnyW_two (i := 9) (i2 := 11) (by kernel_rfl) rfl rfl (fun K hK => ?_) (fun K hK => ?_) 
          · rw [if_pos (by kernel_rfl)]
            have osl := Own.sl obs (Dig.cons HP.out.1 (Dig.nil _)) rfl
            refine wp_append_far (base := w4.heap.size) (l0 := List.replicate q 0) (l := [p]) (A := some ⟨g16, 0, none⟩) (A0 := some ⟨g14, 0, none⟩) (n0 := q) (c0 := q) (m := 1) (c := 1) _ _ (by rfl) (by rfl) omk (by rfl) (fun h => by cases h) osl HQ2.out KK.size ?_
            intro Aap cap u17 oap hbb hff hat
            replace KK := KK.trans (hbb.mono (Nat.le_refl _))
            clear hbb hff hat omk obs osl
            refine hK.out _ _ (fun _ => trivial) ?_
            refine wpAnyW_two (i := 10) (i2 := 11) (by kernel_rfl) rfl rfl (fun K hK => ?_) (fun K hK => ?_) 
            · go_simp
              (with_reducible refine (laid_at false oap (by simp) HV.out.1 HV.out.2).mono ?_)
              rintro ex u18 ⟨rfl, ores, hbb⟩
              replace KK := KK.trans (hbb.mono KK.size)
              clear hbb oap
              refine hK.out _ _ (fun _ => trivial) ?_
              refine wpAnyW_one (i := 11) (by kernel_rfl) rfl (fun K hK => ?_)
              go_simp
              have hap : ∀ g', Aap = some ⟨g', 0, none⟩ → g' ≠ u18.heap.size := fun g' e => Nat.ne_of_lt (own_block ores e).2
              replace ores := Own.alloc ores (.cells #[.bool false, .slice none 0 0] 24)
              have bal := Bx.new u18 (.bool false) (.slice none 0 0)
              have hwal : w4.heap.size ≤ u18.heap.size := KK.size
              have zu19 : u18.heap.size < (u18.alloc (.cells #[.bool false, .slice none 0 0] 24)).heap.size := by simp
              replace KK := Below.alloc KK KK.size (.cells #[.bool false, .slice none 0 0] 24)
              refine hK.out _ _ (fun _ => trivial) ?_
              replace hap := Lib.hid hap
              generalize u18.alloc (.cells #[.bool false, .slice none 0 0] 24) = u19 at *
              generalize u18.heap.size = g20 at *
              refine wpAnyW_one (i := 12) (by kernel_rfl) rfl (fun K hK => ?_)
              obtain ⟨t0, t1, t2, t3⟩ := bal.facts
              go_simp
              refine hK.out _ _ (fun h => absurd h (by simp)) ?_
              refine wpAnyW_done (by kernel_rfl) ?_ _
              go_wp2_with fail
              go_meet
              exact ⟨g20, Aap, cap, rfl, Bx.set bal _ _, (ores.far (p := ⟨g20, 0, none⟩) hap.out _).far (p := ⟨g20, 1, none⟩) hap.out _, (KK.setCell (by simpa using hwal) _).setCell (by simpa using hwal) _, hwal⟩
            · go_simp
              have hap : ∀ g', Aap = some ⟨g', 0, none⟩ → g' ≠ u17.heap.size := fun g' e => Nat.ne_of_lt (own_block oap e).2
              replace oap := Own.alloc oap (.cells #[.bool false, .slice none 0 0] 24)
              have bal := Bx.new u17 (.bool false) (.slice none 0 0)
              have hwal : w4.heap.size ≤ u17.heap.size := KK.size
              have zu21 : u17.heap.size < (u17.alloc (.cells #[.bool false, .slice none 0 0] 24)).heap.size := by simp
              replace KK := Below.alloc KK KK.size (.cells #[.bool false, .slice none 0 0] 24)
              refine hK.out _ _ (fun _ => trivial) ?_
              replace hap := Lib.hid hap
              generalize u17.alloc (.cells #[.bool false, .slice none 0 0] 24) = u21 at *
              generalize u17.heap.size = g22 at *
              refine wpAnyW_one (i := 10) (by kernel_rfl) rfl (fun K hK => ?_)
              go_simp
              (with_reducible refine (laid_at false oap (by simp) HV.out.1 HV.out.2).mono ?_)
              rintro ex u23 ⟨rfl, ores, hbb⟩
              replace bal := Bx.below bal hbb (Bx.lt bal)
              replace KK := KK.trans (hbb.mono KK.size)
              clear hbb oap
              refine hK.out _ _ (fun _ => trivial) ?_
              refine wpAnyW_one (i := 12) (by kernel_rfl) rfl (fun K hK => ?_)
              obtain ⟨t0, t1, t2, t3⟩ := bal.facts
              go_simp
              refine hK.out _ _ (fun h => absurd h (by simp)) ?_
              refine wpAnyW_done (by kernel_rfl) ?_ _
              go_wp2_with fail
              go_meet
              exact ⟨g22, Aap, cap, rfl, Bx.set bal _ _, (ores.far (p := ⟨g22, 0, none⟩) hap.out _).far (p := ⟨g22, 1, none⟩) hap.out _, (KK.setCell (by simpa using hwal) _).setCell (by simpa using hwal) _, hwal⟩
          · go_simp
            replace omk := Own.alloc omk (.cells #[.bool false, .slice none 0 0] 24)
            replace obs := Own.alloc obs (.cells #[.bool false, .slice none 0 0] 24)
            have bal := Bx.new u15 (.bool false) (.slice none 0 0)
            have hwal : w4.heap.size ≤ u15.heap.size := KK.size
            have zu24 : u15.heap.size < (u15.alloc (.cells #[.bool false, .slice none 0 0] 24)).heap.size := by simp
            replace KK := Below.alloc KK KK.size (.cells #[.bool false, .slice none 0 0] 24)
            refine hK.out _ _ (fun _ => trivial) ?_
            generalize u15.alloc (.cells #[.bool false, .slice none 0 0] 24) = u24 at *
            generalize u15.heap.size = g25 at *
            refine wpAnyW_one (i := 9) (by kernel_rfl) rfl (fun K hK => ?_)
            rw [if_pos (by kernel_rfl)]
            have osl := Own.sl obs (Dig.cons HP.out.1 (Dig.nil _)) rfl
            refine wp_append_far (base := w4.heap.size) (l0 := List.replicate q 0) (l := [p]) (A := some ⟨g16, 0, none⟩) (A0 := some ⟨g14, 0, none⟩) (n0 := q) (c0 := q) (m := 1) (c := 1) _ _ (by rfl) (by rfl) omk (by rfl) (fun h => by cases h) osl HQ2.out KK.size ?_
            intro Aap cap u26 oap hbb hff hat
            have ltb := Bx.lt bal
            have ltm := (own_block omk rfl).2
            have hne : g25 ≠ g14 := by omega
            have hap : ∀ g', Aap = some ⟨g', 0, none⟩ → g' ≠ g25 := fun g' e e2 => by
              rcases hat g' e with h | h
              · injection h with h; injection h with h _ _; exact hne (e2.symm.trans h.symm)
              · omega
            replace bal := Bx.same bal (hff g25 ltb (by intro e; injection e with e; injection e with e _ _; exact hne e.symm))
            replace hap := Lib.hid hap
            clear ltb ltm hne
            replace KK := KK.trans (hbb.mono (Nat.le_refl _))
            clear hbb hff hat omk obs osl
            refine hK.out _ _ (fun _ => trivial) ?_
            refine wpAnyW_one (i := 10) (by kernel_rfl) rfl (fun K hK => ?_)
            go_simp
            (with_reducible refine (laid_at false oap (by simp) HV.out.1 HV.out.2).mono ?_)
            rintro ex u27 ⟨rfl, ores, hbb⟩
            replace bal := Bx.below bal hbb (Bx.lt bal)
            replace KK := KK.trans (hbb.mono KK.size)
            clear hbb oap
            refine hK.out _ _ (fun _ => trivial) ?_
            refine wpAnyW_one (i := 12) (by kernel_rfl) rfl (fun K hK => ?_)
            obtain ⟨t0, t1, t2, t3⟩ := bal.facts
            go_simp
            refine hK.out _ _ (fun h => absurd h (by simp)) ?_
            refine wpAnyW_done (by kernel_rfl) ?_ _
            go_wp2_with fail
            go_meet
            exact ⟨g25, Aap, cap, rfl, Bx.set bal _ _, (ores.far (p := ⟨g25, 0, none⟩) hap.out _).far (p := ⟨g25, 1, none⟩) hap.out _, (KK.setCell (by simpa using hwal) _).setCell (by simpa using hwal) _, hwal⟩
        · go_simp
          replace omk := Own.alloc omk (.cells #[.bool false, .slice none 0 0] 24)
          have bal := Bx.new u13 (.bool false) (.slice none 0 0)
          have hwal : w4.heap.size ≤ u13.heap.size := KK.size
          have zu28 : u13.heap.size < (u13.alloc (.cells #[.bool false, .slice none 0 0] 24)).heap.size := by simp
          replace KK := Below.alloc KK KK.size (.cells #[.bool false, .slice none 0 0] 24)
          refine hK.out _ _ (fun _ => trivial) ?_
          generalize u13.alloc (.cells #[.bool false, .slice none 0 0] 24) = u28 at *
          generalize u13.heap.size = g29 at *
          refine wpAnyW_one (i := 8) (by kernel_rfl) rfl (fun K hK => ?_)
          go_simp
          replace omk := Own.alloc omk (.cells #[.int .u32 (p : Int)] 48)
          replace bal := Bx.alloc bal (.cells #[.int .u32 (p : Int)] 48)
          have obs := own_one u28 p (B := w4.heap.size) KK.size
          have zu30 : u28.heap.size < (u28.alloc (.cells #[.int .u32 (p : Int)] 48)).heap.size := by simp
          replace KK := Below.alloc KK KK.size (.cells #[.int .u32 (p : Int)] 48)
          refine hK.out _ _ (fun _ => trivial) ?_
          generalize u28.alloc (.cells #[.int .u32 (p : Int)] 48) = u30 at *
          generalize u28.heap.size = g31 at *
          refine wpAnyW_one (i := 9) (by kernel_rfl) rfl (fun K hK => ?_)
          rw [if_pos (by kernel_rfl)]
          have osl := Own.sl obs (Dig.cons HP.out.1 (Dig.nil _)) rfl
          refine wp_append_far (base := w4.heap.size) (l0 := List.replicate q 0) (l := [p]) (A := some ⟨g31, 0, none⟩) (A0 := some ⟨g14, 0, none⟩) (n0 := q) (c0 := q) (m := 1) (c := 1) _ _ (by rfl) (by rfl) omk (by rfl) (fun h => by cases h) osl HQ2.out KK.size ?_
          intro Aap cap u32 oap hbb hff hat
          have ltb := Bx.lt bal
          have ltm := (own_block omk rfl).2
          have hne : g29 ≠ g14 := by omega
          have hap : ∀ g', Aap = some ⟨g', 0, none⟩ → g' ≠ g29 := fun g' e e2 => by
            rcases hat g' e with h | h
            · injection h with h; injection h with h _ _; exact hne (e2.symm.trans h.symm)
            · omega
          replace bal := Bx.same bal (hff g29 ltb (by intro e; injection e with e; injection e with e _ _; exact hne e.symm))
          replace hap := Lib.hid hap
          clear ltb ltm hne
          replace KK := KK.trans (hbb.mono (Nat.le_refl _))
          clear hbb hff hat omk obs osl
          refine hK.out _ _ (fun _ => trivial) ?_
          refine wpAnyW_one (i := 10) (by kernel_rfl) rfl (fun K hK => ?_)
          go_simp
          (with_reducible refine (laid_at false oap (by simp) HV.out.1 HV.out.2).mono ?_)
          rintro ex u33 ⟨rfl, ores, hbb⟩
          replace bal := Bx.below bal hbb (Bx.lt bal)
          replace KK := KK.trans (hbb.mono KK.size)
          clear hbb oap
          refine hK.out _ _ (fun _ => trivial) ?_
          refine wpAnyW_one (i := 12) (by kernel_rfl) rfl (fun K hK => ?_)
          obtain ⟨t0, t1, t2, t3⟩ := bal.facts
          go_simp
          refine hK.out _ _ (fun h => absurd h (by simp)) ?_
          refine wpAnyW_done (by kernel_rfl) ?_ _
          go_wp2_with fail
          go_meet
          exact ⟨g29, Aap, cap, rfl, Bx.set bal _ _, (ores.far (p := ⟨g29, 0, none⟩) hap.out _).far (p := ⟨g29, 1, none⟩) hap.out _, (KK.setCell (by simpa using hwal) _).setCell (by simpa using hwal) _, hwal⟩
      · go_simp
        have obs := own_one u0 p (B := w4.heap.size) KK.size
        have zu34 : u0.heap.size < (u0.alloc (.cells #[.int .u32 (p : Int)] 48)).heap.size := by simp
        replace KK := Below.alloc KK KK.size (.cells #[.int .u32 (p : Int)] 48)
        refine hK.out _ _ (fun _ => trivial) ?_
        generalize u0.alloc (.cells #[.int .u32 (p : Int)] 48) = u34 at *
        generalize u0.heap.size = g35 at *
        refine wpAnyW_two (i := 3) (i2 := 11) (by kernel_rfl) rfl rfl (fun K hK => ?_) (fun K hK => ?_) 
        · go_simp
          replace obs := Own.alloc obs (.cells (madeCells #[.int .u32 0] q) 48)
          have omk := own_zeros u34 q (B := w4.heap.size) KK.size HQ.out
          have zu36 : u34.heap.size < (u34.alloc (.cells (madeCells #[.int .u32 0] q) 48)).heap.size := by simp
          replace KK := Below.alloc KK KK.size (.cells (madeCells #[.int .u32 0] q) 48)
          refine hK.out _ _ (fun _ => trivial) ?_
          generalize u34.alloc (.cells (madeCells #[.int .u32 0] q) 48) = u36 at *
          generalize u34.heap.size = g37 at *
          refine wpAnyW_two (i := 9) (i2 := 11) (by kernel_rfl) rfl rfl (fun K hK => ?_) (fun K hK => ?_) 
          · rw [if_pos (by kernel_rfl)]
            have osl := Own.sl obs (Dig.cons HP.out.1 (Dig.nil _)) rfl
            refine wp_append_far (base := w4.heap.size) (l0 := List.replicate q 0) (l := [p]) (A := some ⟨g35, 0, none⟩) (A0 := some ⟨g37, 0, none⟩) (n0 := q) (c0 := q) (m := 1) (c := 1) _ _ (by rfl) (by rfl) omk (by rfl) (fun h => by cases h) osl HQ2.out KK.size ?_
            intro Aap cap u38 oap hbb hff hat
            replace KK := KK.trans (hbb.mono (Nat.le_refl _))
            clear hbb hff hat omk obs osl
            refine hK.out _ _ (fun _ => trivial) ?_
            refine wpAnyW_two (i := 10) (i2 := 11) (by kernel_rfl) rfl rfl (fun K hK => ?_) (fun K hK => ?_) 
            · go_simp
              (with_reducible refine (laid_at false oap (by simp) HV.out.1 HV.out.2).mono ?_)
              rintro ex u39 ⟨rfl, ores, hbb⟩
              replace KK := KK.trans (hbb.mono KK.size)
              clear hbb oap
              refine hK.out _ _ (fun _ => trivial) ?_
              refine wpAnyW_one (i := 11) (by kernel_rfl) rfl (fun K hK => ?_)
              go_simp
              have hap : ∀ g', Aap = some ⟨g', 0, none⟩ → g' ≠ u39.heap.size := fun g' e => Nat.ne_of_lt (own_block ores e).2
              replace ores := Own.alloc ores (.cells #[.bool false, .slice none 0 0] 24)
              have bal := Bx.new u39 (.bool false) (.slice none 0 0)
              have hwal : w4.heap.size ≤ u39.heap.size := KK.size
              have zu40 : u39.heap.size < (u39.alloc (.cells #[.bool false, .slice none 0 0] 24)).heap.size := by simp
              replace KK := Below.alloc KK KK.size (.cells #[.bool false, .slice none 0 0] 24)
              refine hK.out _ _ (fun _ => trivial) ?_
              replace hap := Lib.hid hap
              generalize u39.alloc (.cells #[.bool false, .slice none 0 0] 24) = u40 at *
              generalize u39.heap.size = g41 at *
              refine wpAnyW_one (i := 12) (by kernel_rfl) rfl (fun K hK => ?_)
              obtain ⟨t0, t1, t2, t3⟩ := bal.facts
              go_simp
              refine hK.out _ _ (fun h => absurd h (by simp)) ?_
              refine wpAnyW_done (by kernel_rfl) ?_ _
              go_wp2_with fail
              go_meet
              exact ⟨g41, Aap, cap, rfl, Bx.set bal _ _, (ores.far (p := ⟨g41, 0, none⟩) hap.out _).far (p := ⟨g41, 1, none⟩) hap.out _, (KK.setCell (by simpa using hwal) _).setCell (by simpa using hwal) _, hwal⟩
            · go_simp
              have hap : ∀ g', Aap = some ⟨g', 0, none⟩ → g' ≠ u38.heap.size := fun g' e => Nat.ne_of_lt (own_block oap e).2
              replace oap := Own.alloc oap (.cells #[.bool false, .slice none 0 0] 24)
              have bal := Bx.new u38 (.bool false) (.slice none 0 0)
              have hwal : w4.heap.size ≤ u38.heap.size := KK.size
              have zu42 : u38.heap.size < (u38.alloc (.cells #[.bool false, .slice none 0 0] 24)).heap.size := by simp
              replace KK := Below.alloc KK KK.size (.cells #[.bool false, .slice none 0 0] 24)
              refine hK.out _ _ (fun _ => trivial) ?_
              replace hap := Lib.hid hap
              generalize u38.alloc (.cells #[.bool false, .slice none 0 0] 24) = u42 at *
              generalize u38.heap.size = g43 at *
              refine wpAnyW_one (i := 10) (by kernel_rfl) rfl (fun K hK => ?_)
              go_simp
              (with_reducible refine (laid_at false oap (by simp) HV.out.1 HV.out.2).mono ?_)
              rintro ex u44 ⟨rfl, ores, hbb⟩
              replace bal := Bx.below bal hbb (Bx.lt bal)
              replace KK := KK.trans (hbb.mono KK.size)
              clear hbb oap
              refine hK.out _ _ (fun _ => trivial) ?_
              refine wpAnyW_one (i := 12) (by kernel_rfl) rfl (fun K hK => ?_)
              obtain ⟨t0, t1, t2, t3⟩ := bal.facts
              go_simp
              refine hK.out _ _ (fun h => absurd h (by simp)) ?_
              refine wpAnyW_done (by kernel_rfl) ?_ _
              go_wp2_with fail
              go_meet
              exact ⟨g43, Aap, cap, rfl, Bx.set bal _ _, (ores.far (p := ⟨g43, 0, none⟩) hap.out _).far (p := ⟨g43, 1, none⟩) hap.out _, (KK.setCell (by simpa using hwal) _).setCell (by simpa using hwal) _, hwal⟩
          · go_simp
            replace obs := Own.alloc obs (.cells #[.bool false, .slice none 0 0] 24)
            replace omk := Own.alloc omk (.cells #[.bool false, .slice none 0 0] 24)
            have bal := Bx.new u36 (.bool false) (.slice none 0 0)
            have hwal : w4.heap.size ≤ u36.heap.size := KK.size
            have zu45 : u36.heap.size < (u36.alloc (.cells #[.bool false, .slice none 0 0] 24)).heap.size := by simp
            replace KK := Below.alloc KK KK.size (.cells #[.bool false, .slice none 0 0] 24)
            refine hK.out _ _ (fun _ => trivial) ?_
            generalize u36.alloc (.cells #[.bool false, .slice none 0 0] 24) = u45 at *
            generalize u36.heap.size = g46 at *
            refine wpAnyW_one (i := 9) (by kernel_rfl) rfl (fun K hK => ?_)
            rw [if_pos (by kernel_rfl)]
            have osl := Own.sl obs (Dig.cons HP.out.1 (Dig.nil _)) rfl
            refine wp_append_far (base := w4.heap.size) (l0 := List.replicate q 0) (l := [p]) (A := some ⟨g35, 0, none⟩) (A0 := some ⟨g37, 0, none⟩) (n0 := q) (c0 := q) (m := 1) (c := 1) _ _ (by rfl) (by rfl) omk (by rfl) (fun h => by cases h) osl HQ2.out KK.size ?_
            intro Aap cap u47 oap hbb hff hat
            have ltb := Bx.lt bal
            have ltm := (own_block omk rfl).2
            have hne : g46 ≠ g37 := by omega
            have hap : ∀ g', Aap = some ⟨g', 0, none⟩ → g' ≠ g46 := fun g' e e2 => by
              rcases hat g' e with h | h
              · injection h with h; injection h with h _ _; exact hne (e2.symm.trans h.symm)
              · omega
            replace bal := Bx.same bal (hff g46 ltb (by intro e; injection e with e; injection e with e _ _; exact hne e.symm))
            replace hap := Lib.hid hap
            clear ltb ltm hne
            replace KK := KK.trans (hbb.mono (Nat.le_refl _))
            clear hbb hff hat omk obs osl
            refine hK.out _ _ (fun _ => trivial) ?_
            refine wpAnyW_one (i := 10) (by kernel_rfl) rfl (fun K hK => ?_)
            go_simp
            (with_reducible refine (laid_at false oap (by simp) HV.out.1 HV.out.2).mono ?_)
            rintro ex u48 ⟨rfl, ores, hbb⟩
            replace bal := Bx.below bal hbb (Bx.lt bal)
            replace KK := KK.trans (hbb.mono KK.size)
            clear hbb oap
            refine hK.out _ _ (fun _ => trivial) ?_
            refine wpAnyW_one (i := 12) (by kernel_rfl) rfl (fun K hK => ?_)
            obtain ⟨t0, t1, t2, t3⟩ := bal.facts
            go_simp
            refine hK.out _ _ (fun h => absurd h (by simp)) ?_
            refine wpAnyW_done (by kernel_rfl) ?_ _
            go_wp2_with fail
            go_meet
            exact ⟨g46, Aap, cap, rfl, Bx.set bal _ _, (ores.far (p := ⟨g46, 0, none⟩) hap.out _).far (p := ⟨g46, 1, none⟩) hap.out _, (KK.setCell (by simpa using hwal) _).setCell (by simpa using hwal) _, hwal⟩
        · go_simp
          replace obs := Own.alloc obs (.cells #[.bool false, .slice none 0 0] 24)
          have bal := Bx.new u34 (.bool false) (.slice none 0 0)
          have hwal : w4.heap.size ≤ u34.heap.size := KK.size
          have zu49 : u34.heap.size < (u34.alloc (.cells #[.bool false, .slice none 0 0] 24)).heap.size := by simp
          replace KK := Below.alloc KK KK.size (.cells #[.bool false, .slice none 0 0] 24)
          refine hK.out _ _ (fun _ => trivial) ?_
          generalize u34.alloc (.cells #[.bool false, .slice none 0 0] 24) = u49 at *
          generalize u34.heap.size = g50 at *
          refine wpAnyW_one (i := 3) (by kernel_rfl) rfl (fun K hK => ?_)
          go_simp
          replace obs := Own.alloc obs (.cells (madeCells #[.int .u32 0] q) 48)
          replace bal := Bx.alloc bal (.cells (madeCells #[.int .u32 0] q) 48)
          have omk := own_zeros u49 q (B := w4.heap.size) KK.size HQ.out
          have zu51 : u49.heap.size < (u49.alloc (.cells (madeCells #[.int .u32 0] q) 48)).heap.size := by simp
          replace KK := Below.alloc KK KK.size (.cells (madeCells #[.int .u32 0] q) 48)
          refine hK.out _ _ (fun _ => trivial) ?_
          generalize u49.alloc (.cells (madeCells #[.int .u32 0] q) 48) = u51 at *
          generalize u49.heap.size = g52 at *
          refine wpAnyW_one (i := 9) (by kernel_rfl) rfl (fun K hK => ?_)
          rw [if_pos (by kernel_rfl)]
          have osl := Own.sl obs (Dig.cons HP.out.1 (Dig.nil _)) rfl
          refine wp_append_far (base := w4.heap.size) (l0 := List.replicate q 0) (l := [p]) (A := some ⟨g35, 0, none⟩) (A0 := some ⟨g52, 0, none⟩) (n0 := q) (c0 := q) (m := 1) (c := 1) _ _ (by rfl) (by rfl) omk (by rfl) (fun h => by cases h) osl HQ2.out KK.size ?_
          intro Aap cap u53 oap hbb hff hat
          have ltb := Bx.lt bal
          have ltm := (own_block omk rfl).2
          have hne : g50 ≠ g52 := by omega
          have hap : ∀ g', Aap = some ⟨g', 0, none⟩ → g' ≠ g50 := fun g' e e2 => by
            rcases hat g' e with h | h
            · injection h with h; injection h with h _ _; exact hne (e2.symm.trans h.symm)
            · omega
          replace bal := Bx.same bal (hff g50 ltb (by intro e; injection e with e; injection e with e _ _; exact hne e.symm))
          replace hap := Lib.hid hap
          clear ltb ltm hne
          replace KK := KK.trans (hbb.mono (Nat.le_refl _))
          clear hbb hff hat omk obs osl
          refine hK.out _ _ (fun _ => trivial) ?_
          refine wpAnyW_one (i := 10) (by kernel_rfl) rfl (fun K hK => ?_)
          go_simp
          (with_reducible refine (laid_at false oap (by simp) HV.out.1 HV.out.2).mono ?_)
          rintro ex u54 ⟨rfl, ores, hbb⟩
          replace bal := Bx.below bal hbb (Bx.lt bal)
          replace KK := KK.trans (hbb.mono KK.size)
          clear hbb oap
          refine hK.out _ _ (fun _ => trivial) ?_
          refine wpAnyW_one (i := 12) (by kernel_rfl) rfl (fun K hK => ?_)
          obtain ⟨t0, t1, t2, t3⟩ := bal.facts
          go_simp
          refine hK.out _ _ (fun h => absurd h (by simp)) ?_
          refine wpAnyW_done (by kernel_rfl) ?_ _
          go_wp2_with fail
          go_meet
          exact ⟨g50, Aap, cap, rfl, Bx.set bal _ _, (ores.far (p := ⟨g50, 0, none⟩) hap.out _).far (p := ⟨g50, 1, none⟩) hap.out _, (KK.setCell (by simpa using hwal) _).setCell (by simpa using hwal) _, hwal⟩
      · go_simp
        have bal := Bx.new u0 (.bool false) (.slice none 0 0)
        have hwal : w4.heap.size ≤ u0.heap.size := KK.size
        have zu55 : u0.heap.size < (u0.alloc (.cells #[.bool false, .slice none 0 0] 24)).heap.size := by simp
        replace KK := Below.alloc KK KK.size (.cells #[.bool false, .slice none 0 0] 24)
        refine hK.out _ _ (fun _ => trivial) ?_
        generalize u0.alloc (.cells #[.bool false, .slice none 0 0] 24) = u55 at *
        generalize u0.heap.size = g56 at *
        refine wpAnyW_two (i := 3) (i2 := 8) (by kernel_rfl) rfl rfl (fun K hK => ?_) (fun K hK => ?_) 
        · go_simp
          replace bal := Bx.alloc bal (.cells (madeCells #[.int .u32 0] q) 48)
          have omk := own_zeros u55 q (B := w4.heap.size) KK.size HQ.out
          have zu57 : u55.heap.size < (u55.alloc (.cells (madeCells #[.int .u32 0] q) 48)).heap.size := by simp
          replace KK := Below.alloc KK KK.size (.cells (madeCells #[.int .u32 0] q) 48)
          refine hK.out _ _ (fun _ => trivial) ?_
          generalize u55.alloc (.cells (madeCells #[.int .u32 0] q) 48) = u57 at *
          generalize u55.heap.size = g58 at *
          refine wpAnyW_one (i := 8) (by kernel_rfl) rfl (fun K hK => ?_)
          go_simp
          replace bal := Bx.alloc bal (.cells #[.int .u32 (p : Int)] 48)
          replace omk := Own.alloc omk (.cells #[.int .u32 (p : Int)] 48)
          have obs := own_one u57 p (B := w4.heap.size) KK.size
          have zu59 : u57.heap.size < (u57.alloc (.cells #[.int .u32 (p : Int)] 48)).heap.size := by simp
          replace KK := Below.alloc KK KK.size (.cells #[.int .u32 (p : Int)] 48)
          refine hK.out _ _ (fun _ => trivial) ?_
          generalize u57.alloc (.cells #[.int .u32 (p : Int)] 48) = u59 at *
          generalize u57.heap.size = g60 at *
          refine wpAnyW_one (i := 9) (by kernel_rfl) rfl (fun K hK => ?_)
          rw [if_pos (by kernel_rfl)]
          have osl := Own.sl obs (Dig.cons HP.out.1 (Dig.nil _)) rfl
          refine wp_append_far (base := w4.heap.size) (l0 := List.replicate q 0) (l := [p]) (A := some ⟨g60, 0, none⟩) (A0 := some ⟨g58, 0, none⟩) (n0 := q) (c0 := q) (m := 1) (c := 1) _ _ (by rfl) (by rfl) omk (by rfl) (fun h => by cases h) osl HQ2.out KK.size ?_
          intro Aap cap u61 oap hbb hff hat
          have ltb := Bx.lt bal
          have ltm := (own_block omk rfl).2
          have hne : g56 ≠ g58 := by omega
          have hap : ∀ g', Aap = some ⟨g', 0, none⟩ → g' ≠ g56 := fun g' e e2 => by
            rcases hat g' e with h | h
            · injection h with h; injection h with h _ _; exact hne (e2.symm.trans h.symm)
            · omega
          replace bal := Bx.same bal (hff g56 ltb (by intro e; injection e with e; injection e with e _ _; exact hne e.symm))
          replace hap := Lib.hid hap
          clear ltb ltm hne
          replace KK := KK.trans (hbb.mono (Nat.le_refl _))
          clear hbb hff hat omk obs osl
          refine hK.out _ _ (fun _ => trivial) ?_
          refine wpAnyW_one (i := 10) (by kernel_rfl) rfl (fun K hK => ?_)
          go_simp
          (with_reducible refine (laid_at false oap (by simp) HV.out.1 HV.out.2).mono ?_)
          rintro ex u62 ⟨rfl, ores, hbb⟩
          replace bal := Bx.below bal hbb (Bx.lt bal)
          replace KK := KK.trans (hbb.mono KK.size)
          clear hbb oap
          refine hK.out _ _ (fun _ => trivial) ?_
          refine wpAnyW_one (i := 12) (by kernel_rfl) rfl (fun K hK => ?_)
          obtain ⟨t0, t1, t2, t3⟩ := bal.facts
          go_simp
          refine hK.out _ _ (fun h => absurd h (by simp)) ?_
          refine wpAnyW_done (by kernel_rfl) ?_ _
          go_wp2_with fail
          go_meet
          exact ⟨g56, Aap, cap, rfl, Bx.set bal _ _, (ores.far (p := ⟨g56, 0, none⟩) hap.out _).far (p := ⟨g56, 1, none⟩) hap.out _, (KK.setCell (by simpa using hwal) _).setCell (by simpa using hwal) _, hwal⟩
        · go_simp
          replace bal := Bx.alloc bal (.cells #[.int .u32 (p : Int)] 48)
          have obs := own_one u55 p (B := w4.heap.size) KK.size
          have zu63 : u55.heap.size < (u55.alloc (.cells #[.int .u32 (p : Int)] 48)).heap.size := by simp
          replace KK := Below.alloc KK KK.size (.cells #[.int .u32 (p : Int)] 48)
          refine hK.out _ _ (fun _ => trivial) ?_
          generalize u55.alloc (.cells #[.int .u32 (p : Int)] 48) = u63 at *
          generalize u55.heap.size = g64 at *
          refine wpAnyW_one (i := 3) (by kernel_rfl) rfl (fun K hK => ?_)
          go_simp
          replace bal := Bx.alloc bal (.cells (madeCells #[.int .u32 0] q) 48)
          replace obs := Own.alloc obs (.cells (madeCells #[.int .u32 0] q) 48)
          have omk := own_zeros u63 q (B := w4.heap.size) KK.size HQ.out
          have zu65 : u63.heap.size < (u63.alloc (.cells (madeCells #[.int .u32 0] q) 48)).heap.size := by simp
          replace KK := Below.alloc KK KK.size (.cells (madeCells #[.int .u32 0] q) 48)
          refine hK.out _ _ (fun _ => trivial) ?_
          generalize u63.alloc (.cells (madeCells #[.int .u32 0] q) 48) = u65 at *
          generalize u63.heap.size = g66 at *
          refine wpAnyW_one (i := 9) (by kernel_rfl) rfl (fun K hK => ?_)
          rw [if_pos (by kernel_rfl)]
          have osl := Own.sl obs (Dig.cons HP.out.1 (Dig.nil _)) rfl
          refine wp_append_far (base := w4.heap.size) (l0 := List.replicate q 0) (l := [p]) (A := some ⟨g64, 0, none⟩) (A0 := some ⟨g66, 0, none⟩) (n0 := q) (c0 := q) (m := 1) (c := 1) _ _ (by rfl) (by rfl) omk (by rfl) (fun h => by cases h) osl HQ2.out KK.size ?_
          intro Aap cap u67 oap hbb hff hat
          have ltb := Bx.lt bal
          have ltm := (own_block omk rfl).2
          have hne : g56 ≠ g66 := by omega
          have hap : ∀ g', Aap = some ⟨g', 0, none⟩ → g' ≠ g56 := fun g' e e2 => by
            rcases hat g' e with h | h
            · injection h with h; injection h with h _ _; exact hne (e2.symm.trans h.symm)
            · omega
          replace bal := Bx.same bal (hff g56 ltb (by intro e; injection e with e; injection e with e _ _; exact hne e.symm))
          replace hap := Lib.hid hap
          clear ltb ltm hne
          replace KK := KK.trans (hbb.mono (Nat.le_refl _))
          clear hbb hff hat omk obs osl
          refine hK.out _ _ (fun _ => trivial) ?_
          refine wpAnyW_one (i := 10) (by kernel_rfl) rfl (fun K hK => ?_)
          go_simp
          (with_reducible refine (laid_at false oap (by simp) HV.out.1 HV.out.2).mono ?_)
          rintro ex u68 ⟨rfl, ores, hbb⟩
          replace bal := Bx.below bal hbb (Bx.lt bal)
          replace KK := KK.trans (hbb.mono KK.size)
          clear hbb oap
          refine hK.out _ _ (fun _ => trivial) ?_
          refine wpAnyW_one (i := 12) (by kernel_rfl) rfl (fun K hK => ?_)
          obtain ⟨t0, t1, t2, t3⟩ := bal.facts
          go_simp
          refine hK.out _ _ (fun h => absurd h (by simp)) ?_
          refine wpAnyW_done (by kernel_rfl) ?_ _
          go_wp2_with fail
          go_meet
          exact ⟨g56, Aap, cap, rfl, Bx.set bal _ _, (ores.far (p := ⟨g56, 0, none⟩) hap.out _).far (p := ⟨g56, 1, none⟩) hap.out _, (KK.setCell (by simpa using hwal) _).setCell (by simpa using hwal) _, hwal⟩
  obtain ⟨g, A2, c2, rfl, hgx, hgo, hgb, hgw⟩ := hcut
  have hzc := hgb.size
  have hlg := hgx.lt
  replace H1 := Lib.hid (H1.out.below hgb (Bx.lt H1.out))
  replace H2 := Lib.hid (H2.out.below hgb (Bx.lt H2.out))
  replace H3 := Lib.hid (H3.out.trans (hgb.mono H3.out.size))
  clear hgb a0 a1 r0 r1 r2 r3 hqI hrI hpI hpM hmk hneg hm1 hm2 HQ HQ2 HP HV
  obtain ⟨a0, a1, _, _⟩ := H1.out.facts
  obtain ⟨b0, b1, _, _⟩ := hgx.facts
  have HG := Lib.hid hgx
  have HO := Lib.hid (Own.int hgo)
  clear hgx hgo
  go_wp2_with fail
  (with_reducible refine (divide_any (HSl.out _ H3.out).1 HO.out (Nat.le_trans HN.out (by decide)) (HSl.out _ H3.out).2 (Nat.le_refl _) (by rw [HPV.out]; exact Nat.ne_of_gt (Nat.two_pow_pos m))).mono ?_)
  rintro ex w6 ⟨A3, A4, n3, c3, n4, c4, o1, o2, rfl, hq1, hq2, hq3, hq4, hq5, hr1, hr2, hr3, hr4, hr5, -, hb6⟩
  rw [HPV.out] at hq4 hr4
  have hz6 := hb6.size
  replace H1 := Lib.hid (H1.out.below hb6 (Bx.lt H1.out))
  replace H2 := Lib.hid (H2.out.below hb6 (Bx.lt H2.out))
  replace H3 := Lib.hid (H3.out.trans (hb6.mono H3.out.size))
  obtain ⟨z1, hz1⟩ : ∃ z1, ival neg o1 = z1 := ⟨_, rfl⟩
  have HV1 := Lib.hid hz1
  have HQ1 := Lib.hid (And.intro hq2 (And.intro hq3 (And.intro hq4 hq5)))
  have HQo := Lib.hid hq1
  have HR := Lib.hid (Own.sl hr1 hr3 hr2)
  have HR4 := Lib.hid hr4
  have hlt0 : w.heap.size + 1 < wc.heap.size := by have := Bx.lt H2.out; omega
  clear hb6 a0 a1 b0 b1 HG HO hz1 hq1 hq2 hq3 hq4 hq5 hr1 hr2 hr3 hr4 hr5
  obtain ⟨a0, a1, _, _⟩ := H1.out.facts
  go_wp2_with fail
  (with_reducible refine (laid_at neg HQo.out HQ1.out.1 HQ1.out.2.1 HV1.out).mono ?_)
  rintro ex w7 ⟨rfl, ho7, hb7⟩
  have hz7 := hb7.size
  replace H1 := Lib.hid (H1.out.below hb7 (Bx.lt H1.out))
  replace H2 := Lib.hid (H2.out.below hb7 (Bx.lt H2.out))
  replace H3 := Lib.hid (H3.out.trans (hb7.mono H3.out.size))
  have HR7 := Lib.hid (SlU.to HR.out hb7 (Nat.le_refl _))
  have HO7 := Lib.hid ho7
  have HL1 := Lib.hid (show (digs W z1.natAbs).length ≤ 67108864 by
    have h1 : z1.natAbs = nv W o1 := by rw [← HV1.out, ival_natAbs]
    have h2 := nv_lt HQ1.out.2.1
    have h3 := digs_length_le (n := nv W o1) (k := n + 1) (by decide) (Nat.lt_of_lt_of_le h2 (Nat.pow_le_pow_right (by decide) (by rw [HQ1.out.1]; exact HQ1.out.2.2.2)))
    have h4 := HN.out
    rw [h1]; omega)
  have OV := Lib.hid (Own.alloc ho7 (.cells #[.bool (decide (z1 < 0)), .slice A3 (digs W z1.natAbs).length c3] 24))
  have G1 := Lib.hid (Bx.new w7 (.bool (decide (z1 < 0))) (.slice A3 (digs W z1.natAbs).length c3))
  have hG7 : wc.heap.size ≤ w7.heap.size := by omega
  have hz8 : w7.heap.size < (w7.alloc (.cells #[.bool (decide (z1 < 0)), .slice A3 (digs W z1.natAbs).length c3] 24)).heap.size := by simp
  have hneG : w.heap.size + 1 ≠ w7.heap.size := by omega
  have H18 := Lib.hid (Bx.alloc H1.out (.cells #[.bool (decide (z1 < 0)), .slice A3 (digs W z1.natAbs).length c3] 24))
  have H28 := Lib.hid (Bx.alloc H2.out (.cells #[.bool (decide (z1 < 0)), .slice A3 (digs W z1.natAbs).length c3] 24))
  have H38 := Lib.hid (Below.alloc H3.out H3.out.size (.cells #[.bool (decide (z1 < 0)), .slice A3 (digs W z1.natAbs).length c3] 24))
  have HR8 := Lib.hid (SlU.to HR7.out ((Below.refl w7.heap.size w7).alloc (Nat.le_refl _) (.cells #[.bool (decide (z1 < 0)), .slice A3 (digs W z1.natAbs).length c3] 24)) (Nat.le_refl _))
  clear ho7 hb7 a0 a1 H1 H2 H3 HR7 HO7 HR
  go_upto_region 14 with fail
  generalize (w7.alloc (.cells #[.bool (decide (z1 < 0)), .slice A3 (digs W z1.natAbs).length c3] 24)) = w8 at *
  generalize w7.heap.size = G at *
  obtain ⟨a0, a1, _, _⟩ := H18.out.facts
  obtain ⟨r0, r1, r2, r3⟩ := H28.out.facts
  obtain ⟨g0, g1, _, _⟩ := G1.out.facts
  have HZC : Hid (Z = if neg then (if nv W l % 2 ^ m = 0 then -((nv W l / 2 ^ m : Nat) : Int) else -((nv W l / 2 ^ m : Nat) : Int) + -1) else ((nv W l / 2 ^ m : Nat) : Int)) := Lib.hid (by
    rw [← HZ.out, HIV.out]
    cases neg
    · exact down_pos _ _
    · simp only [if_true]
      split
      · rename_i h; exact down_neg0 h
      · rename_i h; exact down_neg1 h)
  have HZ1 : Hid (z1 = if neg then -((nv W l / 2 ^ m : Nat) : Int) else ((nv W l / 2 ^ m : Nat) : Int)) := Lib.hid (by
    rw [← HV1.out]; unfold ival; rw [HQ1.out.2.2.1])
  cases neg
  · have HE := Lib.hid (show z1 = Z by rw [HZC.out, HZ1.out]; rfl)
    go_wp2
    have hr := ResI.stored (w := w) (g := w.heap.size + 1) (u := .bool (decide (z1 < 0))) (u' := .slice A3 (digs W z1.natAbs).length c3) ⟨A3, c3, rfl, OV.out⟩ H38.out (by omega) (by omega)
    exact bodyPost_ret (v := .tuple #[.agg #[.bool (decide (z1 < 0)), .slice A3 (digs W z1.natAbs).length c3], .int .i64 0]) (by simp [results, Try.results55, go_sem, r0, r1]) rfl (PostC.ok rfl (by rw [← HE.out]; exact hr.1) hr.2)
  · by_cases hrm : nv W l % 2 ^ m = 0
    · have HE := Lib.hid (show z1 = Z by rw [HZC.out, HZ1.out]; simp [hrm])
      have ht := (tlen_zero_iff (b := W) (by decide) o2).2 (by rw [HR4.out]; exact hrm)
      have HT := Lib.hid (trim_any HR8.out)
      rw [ht] at HT
      clear ht hrm
      go_wp2_with fail
      refine (HT.out).mono ?_
      rintro ex w7' ⟨rfl, rfl⟩
      go_wp2
      have hr := ResI.stored (w := w) (g := w.heap.size + 1) (u := .bool (decide (z1 < 0))) (u' := .slice A3 (digs W z1.natAbs).length c3) ⟨A3, c3, rfl, OV.out⟩ H38.out (by omega) (by omega)
      exact bodyPost_ret (v := .tuple #[.agg #[.bool (decide (z1 < 0)), .slice A3 (digs W z1.natAbs).length c3], .int .i64 0]) (by simp [results, Try.results55, go_sem, r0, r1]) rfl (PostC.ok rfl (by rw [← HE.out]; exact hr.1) hr.2)
    · have HE := Lib.hid (show z1 + -1 = Z by rw [HZC.out, HZ1.out]; simp [hrm])
      have ht : 0 < tlen o2 := Nat.pos_of_ne_zero (fun e => hrm (by rw [← HR4.out]; exact (tlen_zero_iff (b := W) (by decide) o2).1 e))
      have htI : decide ((0 : Int) < (tlen o2 : Int)) = true := decide_eq_true (by omega)
      have htN : decide (0 < tlen o2) = true := decide_eq_true ht
      have HT := Lib.hid (trim_any HR8.out)
      generalize tlen o2 = tn at *
      clear hrm
      go_wp2_with fail
      refine (HT.out).mono ?_
      rintro ex w7' ⟨rfl, rfl⟩
      go_upto_region 15 with fail
      obtain ⟨m1, hm1⟩ : ∃ m1 : Int, m1 = -1 := ⟨_, rfl⟩
      have HM1 := Lib.hid (fun w1 => from_at (m1 := m1) w1 hm1)
      have HL9 := Lib.hid (show (digs W m1.natAbs).length ≤ 67108864 from Nat.le_trans (digs_length_le (k := 1) (by decide) (by rw [hm1]; decide)) (by decide))
      have HE2 := Lib.hid (show z1 + m1 = Z by rw [hm1]; exact HE.out)
      clear hm1
      have KK : Below w8.heap.size w8 w8.drew := (Below.refl _ _).drew
      have hS := Lib.hid (fun w' (hb : Below w8.heap.size w8 w') => And.intro (G1.out.below hb (Bx.lt G1.out)).facts.1 (G1.out.below hb (Bx.lt G1.out)).facts.2.1)
      refine wp_region_wait (fun w' => w'.cell? ⟨G, 0, none⟩ = some (.bool (decide (z1 < 0))) ∧ w'.cell? ⟨G, 1, none⟩ = some (.slice A3 (digs W z1.natAbs).length c3)) 3 (by kernel_rfl) ?_
      change wpAnyW _ _ _ _ _ _ _ _ _ w8.drew
      refine wpAnyW_take 3 (i := 0) (v := .agg #[.bool (decide (z1 < 0)), .slice A3 (digs W z1.natAbs).length c3]) rfl (by kernel_rfl) (by kernel_rfl) (by kernel_rfl) (by kernel_rfl) (fun _ _ _ h => h) (Or.inl ⟨by kernel_rfl, fun w5 hSw => by go_simp⟩) (hS.out _ KK) ?_
      refine wpAnyW_one (i := 1) (by kernel_rfl) rfl (fun K hK => ?_)
      go_simp
      (with_reducible refine (HM1.out _).mono ?_)
      rintro ex w9 ⟨v, rfl, ⟨A9, c9, rfl, ho9⟩, hb9⟩
      replace KK := KK.trans (hb9.mono KK.size)
      refine hK.out _ _ (fun _ => hS.out _ KK) ?_
      refine wpAnyW_one (i := 2) (by kernel_rfl) rfl (fun K hK => ?_)
      go_simp
      (with_reducible refine (sum_own2 (OV.out.below KK (Nat.le_refl _)) HL1.out ho9 HL9.out HE2.out).mono ?_)
      rintro ex w10 ⟨v, rfl, ⟨A10, c10, rfl, ho10⟩, hb10⟩
      have hz9 := KK.size
      replace KK := KK.trans (hb10.mono KK.size)
      refine hK.out _ _ (fun _ => hS.out _ KK) ?_
      refine wpAnyW_one (i := 3) (by kernel_rfl) rfl (fun K hK => ?_)
      have G2 := Lib.hid (G1.out.below KK (Bx.lt G1.out))
      obtain ⟨t0, t1, t2, t3⟩ := G2.out.facts
      go_simp
      refine hK.out _ _ (fun h => absurd h (by simp)) ?_
      refine wpAnyW_done (by kernel_rfl) ?_ _
      have H28' := Lib.hid (H28.out.below KK (Bx.lt H28.out))
      have H38' := Lib.hid (H38.out.trans (KK.mono H38.out.size))
      have hgn : w.heap.size + 1 ≠ G := hneG
      have G3 := Lib.hid (Bx.set G2.out (.bool (decide (Z < 0))) (.slice A10 (digs W Z.natAbs).length c10))
      have H29 := Lib.hid (Bx.far (Bx.far H28'.out (p := ⟨G, 0, none⟩) hgn (.bool (decide (Z < 0)))) (p := ⟨G, 1, none⟩) hgn (.slice A10 (digs W Z.natAbs).length c10))
      have hG9 : G < w9.heap.size := by omega
      have O11 := Lib.hid (Own.farB (Own.farB ho10 (p := ⟨G, 0, none⟩) hG9 (.bool (decide (Z < 0)))) (p := ⟨G, 1, none⟩) hG9 (.slice A10 (digs W Z.natAbs).length c10))
      have H39 := Lib.hid ((H38'.out.setCell (p := ⟨G, 0, none⟩) (by simp; omega) (.bool (decide (Z < 0)))).setCell (p := ⟨G, 1, none⟩) (by simp; omega) (.slice A10 (digs W Z.natAbs).length c10))
      generalize ((w10.setCell ⟨G, 0, none⟩ (.bool (decide (Z < 0)))).setCell ⟨G, 1, none⟩ (.slice A10 (digs W Z.natAbs).length c10)) = w11 at *
      clear r0 r1 r2 r3 a0 a1 g0 g1 t0 t1 t2 t3 KK hb9 hb10 ho9 ho10
      obtain ⟨g0, g1, _, _⟩ := G3.out.facts
      obtain ⟨r0, r1, r2, r3⟩ := H29.out.facts
      go_wp2
      have hr := ResI.stored (w := w) (g := w.heap.size + 1) (u := .bool (decide (Z < 0))) (u' := .slice A10 (digs W Z.natAbs).length c10) ⟨A10, c10, rfl, O11.out⟩ H39.out (by omega) (by omega)
      exact bodyPost_ret (v := .tuple #[.agg #[.bool (decide (Z < 0)), .slice A10 (digs W Z.natAbs).length c10], .int .i64 0]) (by simp [results, Try.results55, go_sem, r0, r1]) rfl (PostC.ok rfl hr.1 hr.2)
end Go.Proofs.Ytggdmhkdmkldoaa

namespace Go.Proofs.Ytggdmhkdmkldoaa
open Go.RowKit Hb

theorem tooLong_up {x : Int} (h : x ≠ 0) (k : Nat) : tooLong (x * 2 ^ k) = decide (4096 < blen x.natAbs + k) := by
  rw [tooLong, up_abs, blen_up (by omega)]
theorem tooLong_down {x : Int} (h : tooLong x = false) (k : Nat) : tooLong (x / 2 ^ k) = false := by
  have h1 := of_decide_eq_false h
  have h2 := blen_mono (down_abs x k)
  exact decide_eq_false (by omega)
theorem Shift_any (neg : Bool) {B : Nat} {A : Option Addr} {l : List Nat} {n c : Nat} {w : World} (hs : SlU w B A n c l) (hn : n ≤ 67108000) (hB : B ≤ w.heap.size) (k : Int) (hk1 : -9223372036854775808 ≤ k) :
    Calls Try.prog 55 #[.agg #[.bool neg, .slice A n c], .int .i64 k] w (PostC w (shZ (ival neg l) k) (err (lng l || tooLong (shZ (ival neg l) k)))) := by
  cases hlg : lng l
  · by_cases h0 : ival neg l = 0
    · have e : tooLong 0 = false := by simp [tooLong, blen_zero]
      rw [h0, shZ_nought, e]
      exact Shift_nought neg hs hn hB hlg h0 k
    · have ht : tooLong (ival neg l) = false := by rw [← hlg]; exact (lng_ival rfl).symm
      have hab := ival_natAbs neg l
      by_cases hk : 0 ≤ k
      · obtain ⟨j, rfl⟩ := Int.eq_ofNat_of_zero_le hk
        rw [shZ_up, tooLong_up h0, hab]
        by_cases hg : 4096 < blen (nv W l) + j
        · rw [decide_eq_true hg]
          exact Shift_great neg hs hn hB hlg h0 j _ rfl hg _
        · rw [decide_eq_false hg]
          exact Shift_up neg hs hn hB hlg h0 j _ rfl (by omega) _ rfl
      · obtain ⟨j, hj⟩ : ∃ j : Nat, k = -(j : Int) := ⟨k.natAbs, by omega⟩
        have hj0 : 0 < j := by omega
        have e : tooLong (shZ (ival neg l) k) = false := by rw [hj, shZ_down _ hj0]; exact tooLong_down ht j
        rw [e]
        by_cases hf : k < -4096
        · refine Shift_down neg hs hn hB hlg h0 k (-4097) 4097 (by omega) (by omega) (by omega) (by omega) hk1 (fun _ => rfl) (fun h => absurd hf h) _ ?_
          have hlt : (ival neg l).natAbs < 2 ^ 4096 := by
            have := of_decide_eq_false ht
            have h9 := (blen_le_iff (n := (ival neg l).natAbs) (k := 4096)).1 (by omega)
            exact h9
          rw [hj, shZ_down _ hj0, down_far (k := 4097) hlt (by omega), down_far (k := j) hlt (by omega)]
        · refine Shift_down neg hs hn hB hlg h0 k k j hj hj0 (by omega) (by omega) hk1 (fun h => absurd h hf) (fun _ => rfl) _ ?_
          rw [hj, shZ_down _ hj0]
  · exact Shift_long neg hs hn hB hlg k _
section
variable {w : World} {A A' : Option Addr} {n c n' c' : Nat} {l m : List Nat} {na nb : Bool} {x y z : Int}
theorem Shift_z {k : Int} (hs : SlU w w.heap.size A n c l) (hn : n ≤ 1000) (hx : ival na l = x) (hk : -9223372036854775808 ≤ k) (hz : shZ x k = z) (t1 : tooLong x = false) (t3 : tooLong z = false) :
    Calls Try.prog 55 #[.agg #[.bool na, .slice A n c], .int .i64 k] w (PostR w z 0) := by
  have h := Shift_any na hs (by omega) (Nat.le_refl _) k hk
  rw [hx, hz, lng_ival hx, t1, t3] at h
  exact h.mono fun _ _ h => h.ok_ rfl
theorem Pow_z {k : Int} (hs : SlU w w.heap.size A n c l) (hn : n ≤ 1000) (hx : ival na l = x) (hk : 0 ≤ k) (hz : x ^ k.toNat = z) (t1 : tooLong x = false) (t3 : tooLong z = false) :
    Calls Try.prog 54 #[.agg #[.bool na, .slice A n c], .int .i64 k] w (PostR w z 0) := by
  have h := Pow_any na hs (by omega) (Nat.le_refl _) k
  rw [hx, hz, lng_ival hx, t1] at h
  have e : pwCode false x k = 0 := by rw [pwCode, if_neg (by simp), if_neg (by omega), hz, t3]; rfl
  rw [e] at h
  exact h.mono fun _ _ h => h.ok_ rfl
theorem Gcd_z (hs : SlU w w.heap.size A n c l) (ht : SlU w w.heap.size A' n' c' m) (hn : n ≤ 1000) (hn' : n' ≤ 1000) (hx : ival na l = x) (hy : ival nb m = y) (hz : (Nat.gcd x.natAbs y.natAbs : Int) = z) (t1 : tooLong x = false) (t2 : tooLong y = false) :
    Calls Try.prog 53 #[.agg #[.bool na, .slice A n c], .agg #[.bool nb, .slice A' n' c']] w (PostR w z 0) := by
  have h := Gcd_any na nb hs ht (by omega) (by omega) (Nat.le_refl _) (Nat.le_refl _)
  have e1 : nv W l = x.natAbs := by rw [← hx, ival_natAbs]
  have e2 : nv W m = y.natAbs := by rw [← hy, ival_natAbs]
  rw [e1, e2, hz, lng_ival hx, lng_ival hy, t1, t2] at h
  exact h.mono fun _ _ h => h.ok_ rfl
end
theorem dvD_pow (x : Int) (k : Nat) : dvD x (2 ^ k) = x / 2 ^ k := by
  have hp : (0 : Int) < 2 ^ k := Int.pow_pos (by decide)
  have h1 := dm_sum x (2 ^ k)
  have h2 := m_abs (x := x) (y := 2 ^ k) (by omega)
  have h3 : 0 ≤ dvM x (2 ^ k) := by
    by_cases h : dvM x (2 ^ k) = 0
    · omega
    · have h4 := m_sign (x := x) (y := 2 ^ k) (by omega) h
      rw [Int.sign_eq_one_of_pos hp] at h4
      have := Int.sign_eq_one_iff_pos.1 h4
      omega
  refine ((Int.ediv_emod_unique hp).2 ⟨?_, h3, by omega⟩).1.symm
  rw [Int.mul_comm (2 ^ k)]; omega
end Go.Proofs.Ytggdmhkdmkldoaa

namespace Go.Proofs.Ytggdmhkdmkldoaa
open Go.RowKit Hb

/-! ### BigintShifts: the plain law -/
theorem up_bnd {x : Int} {K J j : Nat} (hx : x.natAbs < 2 ^ K) (hj : j ≤ J) : (x * 2 ^ j).natAbs < 2 ^ (K + J) := by
  rw [up_abs, Nat.pow_add]
  exact Nat.lt_of_lt_of_le (Nat.mul_lt_mul_of_pos_right hx (Nat.two_pow_pos j)) (Nat.mul_le_mul_left _ (Nat.pow_le_pow_right (by decide) hj))
theorem two_bnd {J j : Nat} (hj : j ≤ J) : ((2 : Int) ^ j).natAbs < 2 ^ (J + 1) := by
  rw [Int.natAbs_pow]
  exact Nat.pow_lt_pow_right (a := 2) (by decide) (by omega)
theorem gcd_bnd {x y : Int} {K : Nat} (hx : x.natAbs < 2 ^ K) (hy : y.natAbs < 2 ^ K) : ((Nat.gcd x.natAbs y.natAbs : Nat) : Int).natAbs < 2 ^ K := by
  rw [Int.natAbs_natCast]
  by_cases h : x.natAbs = 0
  · rw [h, Nat.gcd_zero_left]; exact hy
  · exact Nat.lt_of_le_of_lt (Nat.le_of_dvd (by omega) (Nat.gcd_dvd_left _ _)) hx
theorem shZ_back (x : Int) (j : Nat) : shZ (x * 2 ^ j) (-(j : Int)) = x := by
  by_cases h : j = 0
  · subst h; rw [show (-((0 : Nat) : Int)) = 0 by rfl, shZ_zero]; simp
  · rw [shZ_down _ (by omega), up_down]
theorem shZ_neg (x : Int) (j : Nat) : shZ x (-(j : Int)) = x / 2 ^ j := by
  by_cases h : j = 0
  · subst h; rw [show (-((0 : Nat) : Int)) = 0 by rfl, shZ_zero]; simp
  · exact shZ_down _ (by omega)
theorem shZ_three (x : Int) : shZ x 3 = x * 2 ^ 3 := shZ_up x 3
theorem gcd_three (x y : Int) : ((Nat.gcd (x * 2 ^ 3).natAbs (y * 2 ^ 3).natAbs : Nat) : Int) = ((Nat.gcd x.natAbs y.natAbs : Nat) : Int) * 2 ^ 3 := by
  rw [up_abs, up_abs, gcd_up, Int.natCast_mul]; rfl
theorem pw_ok {x z : Int} {j : Nat} (h : 0 ≤ (j : Int)) (e : x ^ (j : Int).toNat = z) (t : tooLong z = false) : pwCode false x j = 0 := by
  rw [pwCode, if_neg (by simp), if_neg (by omega), e, t]; rfl
theorem from_two {o : Int} (w : World) (h : o = 2) : Calls Try.prog 38 #[.int .i64 2] w (PostI w o) := by
  subst h; exact from_any 2 w (by decide) (by decide)
end Go.Proofs.Ytggdmhkdmkldoaa

namespace Go.Proofs.Ytggdmhkdmkldoaa
open Go.RowKit Hb

/-- copy's run, in one form -/
theorem copy_run {P : Program} (w : World) (dT sT ty elem : TypeId) (hu : P.underlying dT = some (.slice elem)) (hsz : (P.info? elem).map (·.size) = some 1)
    (dp sp : Option Addr) (dLen dCap sLen sCap : Nat) (g off : Nat) (cur : List Value) (t : TypeId) (hg : w.heap[g]? = some (.cells cur.toArray t (0, 0))) (cs : List Value) (hn : cs.length = Nat.min sLen dLen)
    (hpos : 0 < cs.length → dp = some ⟨g, off, none⟩ ∧ ∃ ad, sp = some ad ∧ ∀ j v, cs[j]? = some v → w.cell? (ad.add j) = some v)
    (hfit : off + cs.length ≤ cur.length) (h1 : ∀ v ∈ cs, v.oneCell' = true) (B : Nat) (w0 : World) (hb : Below B w0 w) (hBg : B ≤ g) :
    ∃ w1, (Builtin.copy_ #[dT, sT] ty #[.slice dp dLen dCap, .slice sp sLen sCap]).run P w = .ok (goInt cs.length) w1 ∧ Hid (w1.heap[g]? = some (.cells (splice cur off cs).toArray t (0, 0))) ∧ Below B w0 w1 := by
  by_cases h0 : cs.length = 0
  · obtain rfl : cs = [] := List.eq_nil_of_length_eq_zero h0
    refine ⟨w, ?_, show _ = _ by simpa [splice] using hg, hb⟩
    have hrun := run_copy_none (P := P) w dT sT ty elem dp sp dLen dCap sLen sCap hu hsz (by simpa using hn.symm)
    simpa using hrun
  · obtain ⟨rfl, ad, rfl, hsrc⟩ := hpos (by omega)
    have hrun := run_copy_row (P := P) w dT sT ty elem g off dLen dCap ad sLen sCap cur.toArray t cs hu hsz hg hn hsrc (by simpa using hfit) h1
    exact ⟨_, hrun, show _ = _ by simpa [splice] using setRow_heap w g _ _ t _ hg, below_setRow hb hBg _⟩
/-! ### twos: a two's complement in so many limbs -/
theorem neg_step {P a b c x t : Nat} (h : a + b + P * c = P) (hx : x ≤ 4294967295) (ht : t = 4294967295 - x + c) :
    (a + P * (t % 4294967296)) + (b + P * x) + P * 4294967296 * (t / 4294967296) = P * 4294967296 := by
  have h1 : P * (t % 4294967296) + P * 4294967296 * (t / 4294967296) = P * t := by
    rw [Nat.mul_assoc, ← Nat.mul_add, Nat.mod_add_div]
  have h2 : P * t + P * x = P * 4294967295 + P * c := by
    rw [← Nat.mul_add, ← Nat.mul_add]
    congr 1; omega
  omega
def NegRel (w : World) (B g : Nat) (m : List Nat) (n k : Nat) (cv : Value) (wr : World) : Prop :=
  ∃ (o : List Nat) (c : Nat), cv = .int .u32 (c : Int) ∧ c ≤ 1 ∧ o.length = k ∧ Dig W o ∧ nv W o + nvp W m k + W ^ k * c = W ^ k ∧
    OwnU wr B (some ⟨g, 0, none⟩) n n (u32s (o ++ m.drop k)) ∧ Below B w wr
section
variable {w wr : World} {B g n k : Nat} {m : List Nat} {cv : Value}
theorem NegRel.start (ho : OwnU wr B (some ⟨g, 0, none⟩) n n (u32s m)) (hb : Below B w wr) : NegRel w B g m n 0 (.int .u32 1) wr :=
  ⟨[], 1, rfl, Nat.le_refl _, rfl, Dig.nil _, by simp [nv, nvp_zero], ho, hb⟩
theorem NegRel.facts (h : NegRel w B g m n k cv wr) (hk : k < n) (hm : m.length = n) (hd : Dig W m) :
    ∃ c : Nat, cv = .int .u32 (c : Int) ∧ c ≤ 1 ∧ wr.cell? ⟨g, k, none⟩ = some (.int .u32 (m.getD k 0 : Nat)) ∧ wr.frozen? ⟨g, k, none⟩ = false ∧ m.getD k 0 < 4294967296 ∧
      Below B w wr ∧ B ≤ g ∧ Hid (NegRel w B g m n (k + 1) (.int .u32 (((4294967295 - m.getD k 0 + 0 + c) / 4294967296 : Nat) : Int)) (wr.setCell ⟨g, k, none⟩ (.int .u32 (((4294967295 - m.getD k 0 + 0 + c) % 4294967296 : Nat) : Int)))) := by
  obtain ⟨o, c, rfl, hc1, hlen, hod, hv, ho, hb⟩ := h
  have h1 := ho.cell (j := k) hk
  have hx : m.getD k 0 < 4294967296 := hd.getD (by decide) k
  have hdr : m.drop k = m.getD k 0 :: m.drop (k + 1) := by
    rw [List.drop_eq_getElem_cons (by omega), getD_eq (by omega)]
  have hget : (o ++ m.drop k).getD k 0 = m.getD k 0 := by
    rw [hdr, List.getD_eq_getElem?_getD, List.getElem?_append_right (by omega), hlen]; simp
  rw [u32s_get (by rw [List.length_append, List.length_drop]; omega), hget] at h1
  have hBg : B ≤ g := by
    rcases ho.form with ⟨e, _⟩ | ⟨g', e, h2, _⟩
    · cases e
    · injection e with e; injection e with e; omega
  refine ⟨c, rfl, hc1, h1, ho.frozen k, hx, hb, hBg, Lib.hid ⟨o ++ [(4294967295 - m.getD k 0 + 0 + c) % 4294967296], (4294967295 - m.getD k 0 + 0 + c) / 4294967296, rfl, by omega, by simp [hlen], hod.append (Dig.cons (Nat.mod_lt _ (by decide)) (Dig.nil _)), ?_, ?_, hb.setCell hBg _⟩⟩
  · rw [nv_snoc, nvp_succ, hlen, Nat.pow_succ]
    exact neg_step hv (by omega) (by omega)
  · have h2 := ho.set_ k (.int .u32 (((4294967295 - m.getD k 0 + 0 + c) % 4294967296 : Nat) : Int))
    generalize (4294967295 - m.getD k 0 + 0 + c) % 4294967296 = t at *
    rw [u32s_set, hdr, List.set_append_right _ _ (by omega), hlen, Nat.sub_self, List.set_cons_zero] at h2
    have e : o ++ [t] ++ m.drop (k + 1) = o ++ t :: m.drop (k + 1) := by simp
    rw [e]; exact h2
/-- a slice of n limbs of the call's own, of this value -/
def TwP (w : World) (v n : Nat) (e : Ending) (w' : World) : Prop :=
  ∃ g o, e = .returned (.slice (some ⟨g, 0, none⟩) n n) ∧ OwnU w' w.heap.size (some ⟨g, 0, none⟩) n n (u32s o) ∧ o.length = n ∧ Dig W o ∧ nv W o = v ∧ Below w.heap.size w w'
theorem NegRel.end_ (h : NegRel w B g m n n cv wr) (hm : m.length = n) (h0 : 0 < nv W m) : ∃ o : List Nat, OwnU wr B (some ⟨g, 0, none⟩) n n (u32s o) ∧ o.length = n ∧ Dig W o ∧ nv W o = W ^ n - nv W m ∧ Below B w wr := by
  obtain ⟨o, c, rfl, hc1, hlen, hod, hv, ho, hb⟩ := h
  rw [List.drop_eq_nil_of_le (by omega), List.append_nil] at ho
  rw [nvp_all (by omega)] at hv
  have hc : c = 0 := by
    rcases Nat.eq_zero_or_pos c with h | h
    · exact h
    · obtain rfl : c = 1 := by omega
      rw [Nat.mul_one] at hv; omega
  subst hc
  exact ⟨o, ho, hlen, hod, by omega, hb⟩
end
theorem add0_any (x c : Nat) (w : World) (hx : x < 4294967296) (hc : c ≤ 1) :
    Calls Try.prog 106 #[.int .u32 (x : Int), .int .u32 0, .int .u32 (c : Int)] w fun e w' => e = .returned (.tuple #[.int .u32 ((x + 0 + c) % 4294967296 : Nat), .int .u32 ((x + 0 + c) / 4294967296 : Nat)]) ∧ w = w' :=
  add32_any x 0 c w hx (by decide) hc
theorem cpl_u32 (x : Nat) (hx : x < 4294967296) : bits .xor .u32 IntKind.u32.max (x : Int) = ((4294967295 - x : Nat) : Int) := by
  have h1 := bits_u32 .xor IntKind.u32.max (x : Int) (.inr (.inr rfl))
  have h2 := bv_bits_xor IntKind.u32.max (x : Int)
  have h3 := congrArg BitVec.toNat h2
  rw [u32_bv _ h1.1 h1.2] at h3
  have h4 : (BitVec.ofInt 32 IntKind.u32.max ^^^ BitVec.ofInt 32 (x : Int)) = ~~~ BitVec.ofInt 32 (x : Int) := by
    rw [show BitVec.ofInt 32 IntKind.u32.max = BitVec.allOnes 32 from by decide, BitVec.allOnes_xor]
  rw [h4, BitVec.toNat_not, u32_bv _ (by omega) (by omega)] at h3
  have h5 := h1.1
  omega

set_option maxRecDepth 100000 in
set_option maxHeartbeats 1000000 in
theorem twos_any (neg : Bool) {B : Nat} {A : Option Addr} {l : List Nat} {n c k : Nat} {w : World} (hs : SlU w B A n c l) (hB : B ≤ w.heap.size) (hk : tlen l ≤ k) (hk2 : k ≤ 67108864) :
    Calls Try.prog 105 #[.agg #[.bool neg, .slice A n c], .int .i64 (k : Int)] w (TwP w (if ival neg l < 0 then W ^ k - nv W l else nv W l) k) := by
  obtain ⟨v, hv⟩ : ∃ v, (if ival neg l < 0 then W ^ k - nv W l else nv W l) = v := ⟨_, rfl⟩
  rw [hv]
  have hmk := makeU k (by omega)
  obtain ⟨s, hsg⟩ : ∃ s, (ival neg l).sign = s := ⟨_, rfl⟩
  have HSg : Hid (∀ w1, Below w.heap.size w w1 → Calls Try.prog 42 #[.agg #[.bool neg, .slice A n c]] w1 (CmpZPost s w1)) := Lib.hid (fun w1 hb => by rw [← hsg]; exact sign_any neg (hs.below (C := w.heap.size) hb hB) (Nat.le_trans hB hb.size))
  have HI := Lib.hid (fun w1 (hb : Below w.heap.size w w1) => trim_any (hs.below (C := w.heap.size) hb hB))
  have HR := Lib.hid (fun w1 (hb : Below w.heap.size w w1) => ((hs.tr).below (C := w.heap.size) hb hB).rd)
  have htl := tr_length l
  have hlen : (madeCells #[Value.int .u32 0] k).toList.length = k := by simp [size_madeCells]
  have HC := Lib.hid (show (u32s (tr l)).length = Nat.min (tlen l) k by rw [u32s_length, htl]; exact (Nat.min_eq_left hk).symm)
  have HF := Lib.hid (show 0 + (u32s (tr l)).length ≤ (madeCells #[Value.int .u32 0] k).toList.length by rw [hlen, u32s_length, htl]; omega)
  have HE := Lib.hid (show splice (madeCells #[Value.int .u32 0] k).toList 0 (u32s (tr l)) = u32s (tr l ++ List.replicate (k - tlen l) 0) by
    rw [u32s_zeros]
    simp only [splice, List.take_zero, List.nil_append, Nat.zero_add]
    rw [u32s_drop, List.drop_replicate, u32s_append, u32s_length, htl])
  have HV := Lib.hid (show nv W (tr l ++ List.replicate (k - tlen l) 0) = nv W l by rw [nv_zeros, nv_tr])
  have HD := Lib.hid (show Dig W (tr l ++ List.replicate (k - tlen l) 0) from hs.dig.tr.append (Dig.replicate _ _ (by decide)))
  have HL := Lib.hid (show (tr l ++ List.replicate (k - tlen l) 0).length = k by rw [List.length_append, List.length_replicate, htl]; omega)
  have HP := Lib.hid (show ∀ (w1 : World) (g : Nat), Below w.heap.size w w1 → 0 < (u32s (tr l)).length → some (⟨g, 0, none⟩ : Addr) = some ⟨g, 0, none⟩ ∧ ∃ ad, A = some ad ∧ ∀ j v, (u32s (tr l))[j]? = some v → w1.cell? (ad.add j) = some v from fun w1 g hb h => by
    obtain ⟨b, o, rfl, hb2, hc⟩ := HR.out w1 hb (List.length_pos_iff.1 h)
    exact ⟨rfl, _, rfl, fun j v hj => by rw [addr_add]; exact hc j v hj⟩)
  have HN := Lib.hid (show s < 0 → 0 < nv W l from fun h => by
    have : ival neg l ≠ 0 := fun e => by rw [← hsg, e] at h; exact absurd h (by decide)
    have h2 := ival_natAbs neg l
    omega)
  have HZ := Lib.hid (show (s < 0 → v = W ^ k - nv W l) ∧ (¬ s < 0 → v = nv W l) from by
    have : (ival neg l < 0) ↔ s < 0 := by rw [← hsg]; exact (Int.sign_neg_iff).symm
    rw [← hv]
    exact ⟨fun h => if_pos (this.2 h), fun h => if_neg (fun h2 => h (this.1 h2))⟩)
  have HK := Lib.hid (show k ≤ maxLen by unfold maxLen; omega)
  have hk9 : k ≤ 1000000000 := by omega
  have B1 := Lib.hid ((Below.refl w.heap.size w).alloc (Nat.le_refl _) (.cells #[.bool neg, .slice A n c] 24))
  have B2 := Lib.hid (B1.out.alloc (by simp) (.cells (madeCells #[.int .u32 0] k) 48))
  have X1 := Lib.hid (Bx.new w (.bool neg) (.slice A n c))
  have hbk := madeU_block (w.alloc (.cells #[.bool neg, .slice A n c] 24)) k
  rw [World.size_alloc] at hbk
  have HBK := Lib.hid hbk
  have B3 := Lib.hid (show Below (w.heap.size + 1) (w.alloc (.cells #[.bool neg, .slice A n c] 24)) ((w.alloc (.cells #[.bool neg, .slice A n c] 24)).alloc (.cells (madeCells #[.int .u32 0] k) 48)) from (Below.refl _ _).alloc (by simp) _)
  obtain ⟨w1, hrun, hb1, hbel⟩ := copy_run _ 22 22 3 48 Try.underlying22 sizeU (some ⟨w.heap.size + 1, 0, none⟩) A k k (tlen l) c (w.heap.size + 1) 0 (madeCells #[.int .u32 0] k).toList 48 HBK.out (u32s (tr l)) HC.out (HP.out _ _ B2.out) HF.out (u32s_one (tr l)) (w.heap.size + 1) (w.alloc (.cells #[.bool neg, .slice A n c] 24)) B3.out (Nat.le_refl _)
  rw [HE.out] at hb1
  have HHB := Lib.hid hbel
  generalize tr l ++ List.replicate (k - tlen l) 0 = m at *
  generalize tlen l = tl at *
  have ho := Own.of_block (B := w.heap.size) hb1.out (by omega) (by rw [u32s_length, HL.out]; exact HK.out)
  rw [u32s_length, HL.out] at ho
  have HO := Lib.hid ho
  have X2 := Lib.hid (X1.out.below hbel (by omega))
  have K1 := Lib.hid (B1.out.trans (hbel.mono (by omega)))
  have hz1 := hbel.size
  simp at hz1
  clear hb1 hbel ho X1 B1 B3 HBK HC HP HF HE HHB
  clear hs hB hk hk2 hsg htl hlen hv hbk
  obtain ⟨a0, a1, _, _⟩ := X2.out.facts
  go_enter Try.func105, Try.ntmps105
  go_wp2_with (go_at_call 80; refine (HI.out _ B2.out).mono ?_; rintro ex w' ⟨rfl, rfl⟩)
  refine (HSg.out _ K1.out).mono ?_
  rintro ex w2 ⟨rfl, hb2⟩
  replace HO := Lib.hid (HO.out.below hb2 (Nat.le_refl _))
  replace K1 := Lib.hid (K1.out.trans (hb2.mono K1.out.size))
  clear hb2 a0 a1
  by_cases hsn : s < 0
  · have ds : decide (s < 0) = true := decide_eq_true hsn
    have HS0 := Lib.hid (NegRel.start (w := w) (n := k) HO.out K1.out)
    have H0 := Lib.hid (show 0 < nv W m by rw [HV.out]; exact HN.out hsn)
    have HF2 := Lib.hid (show v = W ^ k - nv W m by rw [HV.out]; exact HZ.out.1 (by omega))
    clear hsn HO K1 HN HZ
    go_wp2_with fail
    go_loopw [6, 20] (fun cv i wr => ∃ j : Nat, j ≤ k ∧ i = .int .i64 j ∧ NegRel w w.heap.size (w.heap.size + 1) m k j cv wr) (fun _ i _ => k - (intOf i).toNat)
    case atStart => exact ⟨0, Nat.zero_le _, rfl, HS0.out⟩
    case round =>
      obtain ⟨j, hj, rfl, hrel⟩ := hrel
      have HR := Lib.hid hrel
      by_cases hjk : j < k
      · obtain ⟨cc, rfl, hcc, hx, hfz, hxb, hbel, _, hst⟩ := hrel.facts hjk HL.out HD.out
        have hj0 : (0 : Int) ≤ (j : Int) := by omega
        have hji : (j : Int) < (k : Int) := by omega
        have hcx := cpl_u32 (m.getD j 0) hxb
        have HA := Lib.hid (fun w1 => add0_any (4294967295 - m.getD j 0) cc w1 (by omega) hcc)
        generalize m.getD j 0 = x at *
        clear HS0 hbel
        go_wp2_with fail
        with_reducible refine (HA.out _).mono ?_
        rintro e w' ⟨rfl, rfl⟩
        go_wp2_with fail
        go_roundw
        case rel => exact ⟨j + 1, by omega, by go_num, hst.out⟩
        case measure => simp [intOf]; omega
      · obtain rfl : j = k := by omega
        have HEND := Lib.hid (NegRel.end_ HR.out HL.out H0.out)
        clear hrel HS0 HR
        go_wp2
        go_ret
        obtain ⟨o, h1, h2, h3, h4, h5⟩ := HEND.out
        exact ⟨_, o, rfl, h1, h2, h3, by rw [h4, HF2.out], h5⟩
  · have ds : decide (s < 0) = false := decide_eq_false hsn
    have HF2 := Lib.hid (show nv W m = v by rw [HV.out]; exact (HZ.out.2 (by omega)).symm)
    clear hsn HN HZ
    go_wp2
    go_ret
    exact ⟨_, m, rfl, HO.out, HL.out, HD.out, HF2.out, K1.out⟩
end Go.Proofs.Ytggdmhkdmkldoaa

namespace Go.Proofs.Ytggdmhkdmkldoaa
open Go.RowKit Hb

/-! ### each: limb by limb on two's complements -/
def EachRel (w : World) (B gx gy : Nat) (opf : Nat → Nat → Nat) (lx ly : List Nat) (K k : Nat) (wr : World) : Prop :=
  OwnU wr B (some ⟨gx, 0, none⟩) K K (u32s ((List.zipWith opf lx ly).take k ++ lx.drop k)) ∧ OwnU wr B (some ⟨gy, 0, none⟩) K K (u32s ly) ∧ Below B w wr
section
variable {w wr : World} {B gx gy K k : Nat} {opf : Nat → Nat → Nat} {lx ly : List Nat}
theorem EachRel.start (hx : OwnU wr B (some ⟨gx, 0, none⟩) K K (u32s lx)) (hy : OwnU wr B (some ⟨gy, 0, none⟩) K K (u32s ly)) (hb : Below B w wr) : EachRel w B gx gy opf lx ly K 0 wr :=
  ⟨by simpa using hx, hy, hb⟩
theorem own_ge {t : TypeId} {n c g : Nat} {xs : List Value} (ho : Own t wr B (some ⟨g, 0, none⟩) n c xs) : B ≤ g := (own_block ho rfl).1
theorem EachRel.facts (h : EachRel w B gx gy opf lx ly K k wr) (hk : k < K) (hlx : lx.length = K) (hly : ly.length = K) (dx : Dig W lx) (dy : Dig W ly) (hne : gx ≠ gy) :
    wr.cell? ⟨gx, k, none⟩ = some (.int .u32 (lx.getD k 0 : Nat)) ∧ wr.frozen? ⟨gx, k, none⟩ = false ∧ wr.cell? ⟨gy, k, none⟩ = some (.int .u32 (ly.getD k 0 : Nat)) ∧ lx.getD k 0 < 4294967296 ∧ ly.getD k 0 < 4294967296 ∧
      Hid (∀ wd, Dr wr wd → EachRel w B gx gy opf lx ly K (k + 1) (wd.setCell ⟨gx, k, none⟩ (.int .u32 (opf (lx.getD k 0) (ly.getD k 0) : Nat)))) := by
  obtain ⟨hx, hy, hb⟩ := h
  have hdr : lx.drop k = lx.getD k 0 :: lx.drop (k + 1) := by rw [List.drop_eq_getElem_cons (by omega), getD_eq (by omega)]
  have hzl : (List.zipWith opf lx ly).length = K := by rw [List.length_zipWith]; omega
  have htl : ((List.zipWith opf lx ly).take k).length = k := by rw [List.length_take]; omega
  have hget : ((List.zipWith opf lx ly).take k ++ lx.drop k).getD k 0 = lx.getD k 0 := by
    rw [hdr, List.getD_eq_getElem?_getD, List.getElem?_append_right (by omega), htl]; simp
  have h1 := hx.cell (j := k) hk
  have h2 := hy.cell (j := k) hk
  rw [u32s_get (by rw [List.length_append, List.length_drop]; omega), hget] at h1
  rw [u32s_get (by omega)] at h2
  refine ⟨h1, hx.frozen k, h2, dx.getD (by decide) k, dy.getD (by decide) k, Lib.hid fun wd hd => ⟨?_, ?_, ?_⟩⟩
  · obtain ⟨q, rfl⟩ := hd
    have h3 := Own.set_ (show OwnU (wr.drewN q) B (some ⟨gx, 0, none⟩) K K _ from hx) k (.int .u32 (opf (lx.getD k 0) (ly.getD k 0) : Nat))
    rw [u32s_set, hdr, List.set_append_right _ _ (by omega), htl, Nat.sub_self, List.set_cons_zero] at h3
    have e : (List.zipWith opf lx ly).take (k + 1) ++ lx.drop (k + 1) = (List.zipWith opf lx ly).take k ++ opf (lx.getD k 0) (ly.getD k 0) :: lx.drop (k + 1) := by
      rw [List.take_succ_eq_append_getElem (by omega), List.append_assoc, List.getElem_zipWith, getD_eq (by omega), getD_eq (by omega)]; rfl
    rw [e]; exact h3
  · obtain ⟨q, rfl⟩ := hd
    exact Own.far (show OwnU (wr.drewN q) B (some ⟨gy, 0, none⟩) K K _ from hy) (fun g e => by injection e with e; injection e with e _ _; intro e2; exact hne (e2.symm.trans e.symm)) _
  · exact (hb.trans (hd.below B)).setCell (own_ge hx) _
theorem EachRel.end_ (h : EachRel w B gx gy opf lx ly K K wr) (hlx : lx.length = K) (hly : ly.length = K) :
    OwnU wr B (some ⟨gx, 0, none⟩) K K (u32s (List.zipWith opf lx ly)) ∧ Below B w wr := by
  obtain ⟨hx, _, hb⟩ := h
  rw [List.take_of_length_le (by rw [List.length_zipWith]; omega), List.drop_eq_nil_of_le (by omega), List.append_nil] at hx
  exact ⟨hx, hb⟩
end
theorem enter_run {P : Program} {f : FuncId} {fn : Func} {c : Code} (hf : P.funcs[f]? = some fn) (hname : (fn.name == "runtime.NumGoroutine") = false) (hb : fn.body = some c) (args : Array Value) (w : World) :
    (callFunc f args).run P w = .ok (.enter f args) w := by
  have h1 : fn.name ≠ "runtime.NumGoroutine" := by simpa using hname
  simp [callFunc, hf, h1, hb]
/-- what a function of two limbs does -/
def OpC (F : FuncId) (opf : Nat → Nat → Nat) : Prop := ∀ (x y : Nat) (w : World), x < 4294967296 → y < 4294967296 →
  Calls Try.prog F #[.int .u32 (x : Int), .int .u32 (y : Int)] w fun e w' => e = .returned (.int .u32 (opf x y : Nat)) ∧ w = w'

set_option maxRecDepth 100000 in
set_option maxHeartbeats 4000000 in
theorem each_good (F : FuncId) (hen : ∀ (args : Array Value) (w : World), (callFunc F args).run Try.prog w = .ok (.enter F args) w) {opf : Nat → Nat → Nat} {bop : Bool → Bool → Bool} (hF : OpC F opf) (hf : ∀ x y, x < 4294967296 → y < 4294967296 → opf x y < 4294967296)
    (hbit : ∀ x y i, x < 4294967296 → y < 4294967296 → i < 32 → (opf x y).testBit i = bop (x.testBit i) (y.testBit i))
    (na nb : Bool) {B B' : Nat} {A A' : Option Addr} {l m : List Nat} {n c n' c' : Nat} {w : World} (hs : SlU w B A n c l) (ht : SlU w B' A' n' c' m) (hn : n ≤ 67108000) (hn' : n' ≤ 67108000) (hB : B ≤ w.heap.size) (hB' : B' ≤ w.heap.size)
    (hlg : (lng l || lng m) = false) {z : Int} (hz : ∀ i, ib z i = bop (ib (ival na l) i) (ib (ival nb m) i)) :
    Calls Try.prog 89 #[.agg #[.bool na, .slice A n c], .agg #[.bool nb, .slice A' n' c'], .func (.func F) #[] #[]] w (PostC w z (err (tooLong z))) := by
  have HL := Lib.hid (W2_long (na := na) (nb := nb) hs ht (by omega) (by omega) hB hB')
  rw [hlg] at HL
  have HW := Lib.hid (W2_below w na nb A A' n c n' c')
  have HK := Lib.hid (fun C w2 (hb : Below C (W2 w na nb A A' n c n' c') w2) hC => W2_cells hb hC)
  have HT1 := Lib.hid (fun w1 (hb : Below w.heap.size w w1) => trim_any (hs.below (C := w.heap.size) hb hB))
  have HT2 := Lib.hid (fun w1 (hb : Below w.heap.size w w1) => trim_any (ht.below (C := w.heap.size) hb hB'))
  obtain ⟨N, hN⟩ : ∃ N, max (tlen l) (tlen m) = N := ⟨_, rfl⟩
  have hl1 := tlen_le l
  have hl2 := tlen_le m
  have hl3 := hs.len
  have hl4 := ht.len
  have hN9 : N ≤ 67108000 := by omega
  have hmx : max (tlen l : Int) (tlen m : Int) = (N : Int) := by omega
  have hNK : (N : Int) + 1 = ((N + 1 : Nat) : Int) := rfl
  have hx : (ival na l).natAbs < W ^ N := by
    rw [ival_natAbs, ← nv_tr]
    refine Nat.lt_of_lt_of_le (nv_lt hs.dig.tr) (Nat.pow_le_pow_right (by decide) ?_)
    rw [tr_length]; omega
  have hy : (ival nb m).natAbs < W ^ N := by
    rw [ival_natAbs, ← nv_tr]
    refine Nat.lt_of_lt_of_le (nv_lt ht.dig.tr) (Nat.pow_le_pow_right (by decide) ?_)
    rw [tr_length]; omega
  have hxt := tcv_tw hx
  have hyt := tcv_tw hy
  rw [ival_natAbs] at hxt hyt
  obtain ⟨K, hK⟩ : ∃ K, N + 1 = K := ⟨_, rfl⟩
  rw [hK] at hxt hyt
  have HTW1 := Lib.hid (fun w1 (hb : Below w.heap.size w w1) => twos_any na (k := K) (hs.below (C := w.heap.size) hb hB) (Nat.le_trans hB hb.size) (by omega) (by omega))
  have HTW2 := Lib.hid (fun w1 (hb : Below w.heap.size w w1) => twos_any nb (k := K) (ht.below (C := w.heap.size) hb hB') (Nat.le_trans hB' hb.size) (by omega) (by omega))
  have hK9 : K ≤ 67108001 := by omega
  have hK0 : 0 < K := by omega
  have HVAL : Hid (∀ lx ly, lx.length = K → ly.length = K → Dig W lx → Dig W ly → nv W lx = (if ival na l < 0 then W ^ K - nv W l else nv W l) → nv W ly = (if ival nb m < 0 then W ^ K - nv W m else nv W m) → tcv (32 * K) (nv W (List.zipWith opf lx ly)) = z) := Lib.hid (fun lx ly h1 h2 h3 h4 h5 h6 =>
    each_val hK0 h1 h2 h3 h4 (by rw [h5]; exact hxt) (by rw [h6]; exact hyt) hf hbit hz)
  generalize (if ival na l < 0 then W ^ K - nv W l else nv W l) = vx at *
  generalize (if ival nb m < 0 then W ^ K - nv W m else nv W m) = vy at *
  have HF := Lib.hid hF
  have HFF := Lib.hid hf
  have hNKI : (N : Int) + 1 = (K : Int) := by omega
  have HKN := Lib.hid (show K = N + 1 from hK.symm)
  have hKw : IntKind.i64.wrap (K : Int) = (K : Int) := IntWalk.i64_in _ (by omega)
  generalize tlen l = tl at *
  generalize tlen m = tm at *
  clear hs ht hn hn' hB hB' hlg hz hbit hf hF hx hy hxt hyt hl1 hl2 hl3 hl4 hN hK hNK
  go_enter Try.func89, Try.ntmps89
  go_wp2_with fail
  refine HL.out.mono ?_
  rintro ex w3 ⟨rfl, hb3⟩
  obtain ⟨⟨q0, q1⟩, ⟨q2, q3⟩, r0, r1, r2, r3⟩ := HK.out _ _ hb3 (by first | omega | (simp; done) | (simp; omega))
  have HB3 := Lib.hid (HW.out.trans (hb3.mono (B' := w.heap.size) (by first | omega | (simp; done) | (simp; omega))))
  have H3 := Lib.hid hb3
  have hz3 := hb3.size
  simp at hz3
  clear hb3 r0 r1 r2 r3
  have HSS := Lib.hid (fun w' (hb : Below w3.heap.size w3 w') => And.intro (And.intro ((hb.cell (p := ⟨w.heap.size, 0, none⟩) (by simp; omega)).trans q0) ((hb.cell (p := ⟨w.heap.size, 1, none⟩) (by simp; omega)).trans q1)) (And.intro ((hb.cell (p := ⟨w.heap.size + 1, 0, none⟩) (by simp; omega)).trans q2) ((hb.cell (p := ⟨w.heap.size + 1, 1, none⟩) (by simp; omega)).trans q3)))
  go_upto_region 3 with fail
  go_region_held3 (fun w' => (w'.cell? ⟨w.heap.size, 0, none⟩ = some (.bool na) ∧ w'.cell? ⟨w.heap.size, 1, none⟩ = some (.slice A n c)) ∧ (w'.cell? ⟨w.heap.size + 1, 0, none⟩ = some (.bool nb) ∧ w'.cell? ⟨w.heap.size + 1, 1, none⟩ = some (.slice A' n' c')))
    (first | (go_keep; done) | exact HSS.out _ (Below.refl w3.heap.size w3).drew)
    (first
      | (go_at_call 80; (with_reducible refine (HT1.out _ ?_).mono ?_); exact HB3.out.drew; rintro e w' ⟨rfl, rfl⟩)
      | (go_at_call 80; (with_reducible refine (HT2.out _ ?_).mono ?_); exact HB3.out.drew; rintro e w' ⟨rfl, rfl⟩))
  go_upto_region 4 with fail
  have K0 : Below w3.heap.size w3 w3.drew := (Below.refl w3.heap.size w3).drew
  have hzd : w3.heap.size ≤ w3.drew.heap.size := Nat.le_refl _
  have HS5 := Lib.hid (fun w' (hb : Below w3.drew.heap.size w3.drew w') => HSS.out w' (K0.trans (hb.mono hzd)))
  have HB5 := Lib.hid (HB3.out.trans (K0.mono HB3.out.size))
  have H5 := Lib.hid (H3.out.trans (K0.mono H3.out.size))
  obtain ⟨⟨q0, q1⟩, ⟨q2, q3⟩⟩ := HSS.out _ K0
  clear K0 HSS HB3 H3 HT1 HT2
  generalize w3.drew = w5 at *
  go_region_held3 (fun w' => (w'.cell? ⟨w.heap.size, 0, none⟩ = some (.bool na) ∧ w'.cell? ⟨w.heap.size, 1, none⟩ = some (.slice A n c)) ∧ (w'.cell? ⟨w.heap.size + 1, 0, none⟩ = some (.bool nb) ∧ w'.cell? ⟨w.heap.size + 1, 1, none⟩ = some (.slice A' n' c')))
    (first | (go_keep; done) | exact HS5.out _ k7 | exact HS5.out _ k6 | exact HS5.out _ (Below.refl w5.heap.size w5).drew)
    (first
      | (go_at_call 105; (with_reducible refine (HTW1.out _ ?_).mono ?_); exact HB5.out.drew; rintro e w6 ⟨gx, lx, rfl, hox, hlx, hdx, hvx, hb6⟩; have k6 : Below w5.heap.size w5 w6 := (Below.refl w5.heap.size w5).drew.trans hb6; have kz6 := k6.size)
      | (go_at_call 105; (with_reducible refine (HTW2.out _ ?_).mono ?_); exact HB5.out.trans (k6.mono HB5.out.size); rintro e w7 ⟨gy, ly, rfl, hoy, hly, hdy, hvy, hb7⟩; have k7 : Below w5.heap.size w5 w7 := k6.trans (hb7.mono kz6); have kz7 := k7.size))
  have hgx := (own_block hox rfl).2
  have hgy := (own_block hoy rfl).1
  have hne : gx ≠ gy := by omega
  have HX := Lib.hid (And.intro hlx (And.intro hly (And.intro hdx (And.intro hdy hne))))
  have HV := Lib.hid (HVAL.out lx ly hlx hly hdx hdy hvx hvy)
  have HR0 := Lib.hid (EachRel.start (w := w5) (opf := opf) (K := K) (Own.below hox hb7 (Nat.le_refl _)) (Own.mono hoy kz6) k7)
  have HDO := Lib.hid (dig_zip HFF.out hdx hdy)
  clear hgx hgy hox hoy hlx hly hdx hdy hvx hvy hb6 hb7 k6 k7 kz6 kz7 HVAL HTW1 HTW2 q0 q1 q2 q3 hne
  go_wp2_with fail
  go_loopw [37] (fun iv wr => ∃ k : Nat, k ≤ K ∧ iv = .int .i64 k ∧ EachRel w5 w5.heap.size gx gy opf lx ly K k wr) (fun iv _ => K - (intOf iv).toNat)
  case atStart => exact ⟨0, Nat.zero_le _, rfl, HR0.out⟩
  case round =>
    obtain ⟨k, hk, rfl, hrel⟩ := hrel
    have HR := Lib.hid hrel
    have hk0 : (0 : Int) ≤ (k : Int) := by omega
    by_cases hkK : k < K
    · obtain ⟨hcx, hfz, hcy, hxb, hyb, hst⟩ := hrel.facts hkK HX.out.1 HX.out.2.1 HX.out.2.2.1 HX.out.2.2.2.1 HX.out.2.2.2.2
      have hkI : (k : Int) < (K : Int) := by omega
      have HC := Lib.hid (fun w1 => HF.out (lx.getD k 0) (ly.getD k 0) w1 hxb hyb)
      generalize lx.getD k 0 = xx at *
      generalize ly.getD k 0 = yy at *
      clear hrel HR0
      go_upto_region 8 with fail
      refine wp_region_wait (fun w' => w'.cell? ⟨gx, k, none⟩ = some (.int .u32 (xx : Int)) ∧ w'.cell? ⟨gy, k, none⟩ = some (.int .u32 (yy : Int))) 13 (by kernel_rfl) ?_
      change wpAnyW _ _ _ _ _ _ _ _ _ wr.drew
      refine wpAnyW_take 13 (i := 0) (v := .slice (some ⟨gx, 0, none⟩) K K) rfl (by kernel_rfl) (by kernel_rfl) (by kernel_rfl) (by kernel_rfl) (fun _ _ _ h => h) (Or.inl ⟨by kernel_rfl, fun w5 hSw => by go_simp⟩) ⟨hcx, hcy⟩ ?_
      refine wpAnyW_take 13 (i := 1) (v := .int .i64 (k : Int)) rfl (by kernel_rfl) (by kernel_rfl) (by kernel_rfl) (by kernel_rfl) (fun _ _ _ h => h) (Or.inl ⟨by kernel_rfl, fun w5 hSw => by go_simp⟩) ⟨hcx, hcy⟩ ?_
      refine wpAnyW_take 13 (i := 2) (v := .func (.func F) #[] #[]) rfl (by kernel_rfl) (by kernel_rfl) (by kernel_rfl) (by kernel_rfl) (fun _ _ _ h => h) (Or.inl ⟨by kernel_rfl, fun w5 hSw => by go_simp⟩) ⟨hcx, hcy⟩ ?_
      refine wpAnyW_take 13 (i := 3) (v := .slice (some ⟨gx, 0, none⟩) K K) rfl (by kernel_rfl) (by kernel_rfl) (by kernel_rfl) (by kernel_rfl) (fun _ _ _ h => h) (Or.inl ⟨by kernel_rfl, fun w5 hSw => by go_simp⟩) ⟨hcx, hcy⟩ ?_
      refine wpAnyW_take 13 (i := 4) (v := .int .i64 (k : Int)) rfl (by kernel_rfl) (by kernel_rfl) (by kernel_rfl) (by kernel_rfl) (fun _ _ _ h => h) (Or.inl ⟨by kernel_rfl, fun w5 hSw => by go_simp⟩) ⟨hcx, hcy⟩ ?_
      refine wpAnyW_take 13 (i := 5) (v := .pointer (some ⟨gx, k, none⟩)) rfl (by kernel_rfl) (by kernel_rfl) (by kernel_rfl) (by kernel_rfl) (fun _ _ _ h => h) (Or.inl ⟨by kernel_rfl, fun w5 hSw => by go_simp⟩) ⟨hcx, hcy⟩ ?_
      refine wpAnyW_take 13 (i := 6) (v := .int .u32 (xx : Int)) rfl (by kernel_rfl) (by kernel_rfl) (by kernel_rfl) (by kernel_rfl) (fun _ _ _ h => h) (Or.inl ⟨by kernel_rfl, fun w5 hSw => by go_simp⟩) ⟨hcx, hcy⟩ ?_
      refine wpAnyW_take 13 (i := 7) (v := .slice (some ⟨gy, 0, none⟩) K K) rfl (by kernel_rfl) (by kernel_rfl) (by kernel_rfl) (by kernel_rfl) (fun _ _ _ h => h) (Or.inl ⟨by kernel_rfl, fun w5 hSw => by go_simp⟩) ⟨hcx, hcy⟩ ?_
      refine wpAnyW_take 13 (i := 8) (v := .int .i64 (k : Int)) rfl (by kernel_rfl) (by kernel_rfl) (by kernel_rfl) (by kernel_rfl) (fun _ _ _ h => h) (Or.inl ⟨by kernel_rfl, fun w5 hSw => by go_simp⟩) ⟨hcx, hcy⟩ ?_
      refine wpAnyW_take 13 (i := 9) (v := .pointer (some ⟨gy, k, none⟩)) rfl (by kernel_rfl) (by kernel_rfl) (by kernel_rfl) (by kernel_rfl) (fun _ _ _ h => h) (Or.inl ⟨by kernel_rfl, fun w5 hSw => by go_simp⟩) ⟨hcx, hcy⟩ ?_
      refine wpAnyW_take 13 (i := 10) (v := .int .u32 (yy : Int)) rfl (by kernel_rfl) (by kernel_rfl) (by kernel_rfl) (by kernel_rfl) (fun _ _ _ h => h) (Or.inl ⟨by kernel_rfl, fun w5 hSw => by go_simp⟩) ⟨hcx, hcy⟩ ?_
      refine wpAnyW_one (i := 11) (by kernel_rfl) rfl (fun K' hK' => ?_)
      go_simp
      (with_reducible refine (HC.out _).mono ?_)
      rintro ex w' ⟨rfl, rfl⟩
      refine hK'.out _ _ (fun _ => ⟨hcx, hcy⟩) ?_
      refine wpAnyW_one (i := 12) (by kernel_rfl) rfl (fun K' hK' => ?_)
      go_simp
      refine hK'.out _ _ (fun _ => ⟨hcx, hcy⟩) ?_
      refine wpAnyW_one (i := 13) (by kernel_rfl) rfl (fun K' hK' => ?_)
      go_simp
      refine hK'.out _ _ (fun h => absurd h (by simp)) ?_
      refine wpAnyW_done (by kernel_rfl) ?_ _
      go_wp2_with fail
      go_roundw
      case rel => exact ⟨k + 1, by omega, by go_num, hst.out _ ((Dr.refl wr).drew)⟩
      case measure => simp [intOf]; omega
    · obtain rfl : k = K := by omega
      obtain ⟨ho0, hb0⟩ := HR.out.end_ HX.out.1 HX.out.2.1
      have hzl : (List.zipWith opf lx ly).length = k := by rw [List.length_zipWith, HX.out.1, HX.out.2.1, Nat.min_self]
      have hgx := own_ge ho0
      have HO := Lib.hid ho0
      have HLo := Lib.hid hzl
      have HB0 := Lib.hid hb0
      have hkN := HKN.out
      have htb := top_limb (N := N) HDO.out (by rw [hzl]; exact hkN)
      have hcell := ho0.cell (j := N) (by omega)
      rw [u32s_get (by omega)] at hcell
      have htl : (List.zipWith opf lx ly).getD N 0 < 4294967296 := HDO.out.getD (by decide) N
      obtain ⟨_, _, r0, r1, r2, r3⟩ := HK.out _ _ (H5.out.trans (hb0.mono H5.out.size)) (by first | omega | (simp; done) | (simp; omega))
      rw [← hkN] at htb
      generalize List.zipWith opf lx ly = o at *
      generalize o.getD N 0 = tp at *
      have hN1 : (k : Int) - 1 = (N : Int) := by omega
      have hNk : (N : Int) < (k : Int) := by omega
      have hN0 : (0 : Int) ≤ (N : Int) := by omega
      have hv : (2 * nv W o < 2 ^ (32 * k) → (nv W o : Int) = z) ∧ (¬ 2 * nv W o < 2 ^ (32 * k) → (nv W o : Int) - (2 : Int) ^ (32 * k) = z) := by
        have := HV.out
        unfold tcv at this
        exact ⟨fun h => by rw [if_pos h] at this; exact this, fun h => by rw [if_neg h] at this; exact this⟩
      have hvb : nv W o < 2 ^ (32 * k) := by
        have h1 := nv_lt HDO.out
        rw [hzl, W_pow_eq] at h1
        exact h1
      have hpc := two_pow_cast (32 * k)
      have hab : z.natAbs < 2 ^ (32 * k) := by
        by_cases h : 2 * nv W o < 2 ^ (32 * k)
        · have := hv.1 h; omega
        · have := hv.2 h; omega
      have HZl := Lib.hid (show (digs W z.natAbs).length ≤ 67108864 by
        have h1 := digs_length_le (b := W) (n := z.natAbs) (k := k) (by decide) (by rw [W_pow_eq]; exact hab)
        omega)
      have hg1 : w5.heap.size ≤ gx := hgx
      clear hrel HR HR0 ho0 hb0 hzl hkN hab
      by_cases hlt : tp < 2147483648
      · have hd : (tp : Int) / 2147483648 = 0 := by omega
        have HZ := Lib.hid (show ival false o = z from hv.1 (htb.2 hlt))
        have HBx := HB0
        clear hv htb hvb hpc
        go_wp2_with fail
        (with_reducible refine (laid_at false HO.out HLo.out HDO.out HZ.out).mono ?_)
        rintro ex w7 ⟨rfl, ho7, hb7⟩
        have HO7 := Lib.hid ho7
        have HB57 := Lib.hid (HBx.out.trans (hb7.mono HBx.out.size))
        clear ho7 hb7
        go_wp2_with fail
        (with_reducible refine (kept_res HO7.out HZl.out).mono ?_)
        rintro ex w8 ⟨rfl, hb8⟩
        have HO8 := Lib.hid (HO7.out.below (C := w7.heap.size) hb8 (Nat.le_refl _))
        have HB58 := Lib.hid (HB57.out.trans (hb8.mono HB57.out.size))
        obtain ⟨_, _, r0, r1, r2, r3⟩ := HK.out _ _ (H5.out.trans (HB58.out.mono H5.out.size)) (by first | omega | (simp; done) | (simp; omega))
        have HBw := Lib.hid (HB5.out.trans (HB58.out.mono HB5.out.size))
        clear hb8
        cases hT : tooLong z
        · simp only [Bool.false_eq_true, ↓reduceIte, err]
          go_wp2
          have hr := ResI.stored (w := w) (g := w.heap.size + 1 + 1) (u := .bool (decide (z < 0))) (u' := .slice (some ⟨gx, 0, none⟩) (digs W z.natAbs).length k) ⟨(some ⟨gx, 0, none⟩), k, rfl, HO8.out⟩ HBw.out (by omega) (by omega)
          exact bodyPost_ret (v := .tuple #[.agg #[.bool (decide (z < 0)), .slice (some ⟨gx, 0, none⟩) (digs W z.natAbs).length k], .int .i64 0]) (by simp [results, Try.results89, go_sem, r0, r1]) rfl
            (PostC.ok (by simp [err, hT]) hr.1 hr.2)
        · simp only [↓reduceIte, err]
          go_wp2
          exact bodyPost_ret (v := .tuple #[zeroV, .int .i64 10]) (by simp [results, Try.results89, go_sem, r0, r1]) rfl
            (PostC.bad (by simp [err, hT]) (by decide) ((HBw.out.setCell (by simp; omega) _).setCell (by simp; omega) _))
      · have hd : ((tp : Int) / 2147483648 == 0) = false := beq_eq_false_iff_ne.2 (by omega)
        have hd2 : (tp : Int) / 2147483648 = 1 := by omega
        have h0 : 0 < nv W o := by
          have h1 := mt htb.1 hlt
          have := Nat.two_pow_pos (32 * k)
          omega
        have HZ0 := Lib.hid (show (nv W o : Int) - (2 : Int) ^ (32 * k) = z from hv.2 (mt htb.1 hlt))
        have HVB := Lib.hid (And.intro hvb (And.intro hpc h0))
        have HS0 := Lib.hid (NegRel.start (w := w5) (n := k) HO.out HB0.out)
        clear hv htb hvb hpc h0 HO HB0 r0 r1 r2 r3
        go_wp2_with fail
        clear hcell
        go_loopw [12, 68] (fun cv i wr2 => ∃ j : Nat, j ≤ k ∧ i = .int .i64 j ∧ NegRel w5 w5.heap.size gx o k j cv wr2) (fun _ i _ => k - (intOf i).toNat)
        case atStart => exact ⟨0, Nat.zero_le _, rfl, HS0.out⟩
        case round =>
          obtain ⟨j, hj, rfl, hrel⟩ := hrel
          have HR := Lib.hid hrel
          have hj0 : (0 : Int) ≤ (j : Int) := by omega
          by_cases hjk : j < k
          · obtain ⟨cc, rfl, hcc, hx, hfz, hxb, hbel, _, hst⟩ := hrel.facts hjk HLo.out HDO.out
            have hji : (j : Int) < (k : Int) := by omega
            have hcx := cpl_u32 (o.getD j 0) hxb
            have HA := Lib.hid (fun w1 => add0_any (4294967295 - o.getD j 0) cc w1 (by omega) hcc)
            generalize o.getD j 0 = x at *
            clear HS0 hbel
            go_wp2_with fail
            with_reducible refine (HA.out _).mono ?_
            rintro e w' ⟨rfl, rfl⟩
            go_wp2_with fail
            go_roundw
            case rel => exact ⟨j + 1, by omega, by go_num, hst.out⟩
            case measure => simp [intOf]; omega
          · obtain rfl : j = k := by omega
            obtain ⟨o2, h1, h2, h3, h4, h5⟩ := NegRel.end_ HR.out HLo.out HVB.out.2.2
            have HO2 := Lib.hid h1
            have HX2 := Lib.hid (And.intro h2 h3)
            have HBx := Lib.hid h5
            have HZ := Lib.hid (show ival true o2 = z by
              have e1 := HVB.out
              rw [← HZ0.out]
              unfold ival
              rw [h4, W_pow_eq, if_pos rfl]
              omega)
            clear hrel HS0 HR h1 h2 h3 h4 h5
            go_wp2_with fail
            (with_reducible refine (laid_at true HO2.out HX2.out.1 HX2.out.2 HZ.out).mono ?_)
            rintro ex w7 ⟨rfl, ho7, hb7⟩
            have HO7 := Lib.hid ho7
            have HB57 := Lib.hid (HBx.out.trans (hb7.mono HBx.out.size))
            clear ho7 hb7
            go_wp2_with fail
            (with_reducible refine (kept_res HO7.out HZl.out).mono ?_)
            rintro ex w8 ⟨rfl, hb8⟩
            have HO8 := Lib.hid (HO7.out.below (C := w7.heap.size) hb8 (Nat.le_refl _))
            have HB58 := Lib.hid (HB57.out.trans (hb8.mono HB57.out.size))
            obtain ⟨_, _, r0, r1, r2, r3⟩ := HK.out _ _ (H5.out.trans (HB58.out.mono H5.out.size)) (by first | omega | (simp; done) | (simp; omega))
            have HBw := Lib.hid (HB5.out.trans (HB58.out.mono HB5.out.size))
            clear hb8
            cases hT : tooLong z
            · simp only [Bool.false_eq_true, ↓reduceIte, err]
              go_wp2
              have hr := ResI.stored (w := w) (g := w.heap.size + 1 + 1) (u := .bool (decide (z < 0))) (u' := .slice (some ⟨gx, 0, none⟩) (digs W z.natAbs).length j) ⟨(some ⟨gx, 0, none⟩), j, rfl, HO8.out⟩ HBw.out (by omega) (by omega)
              exact bodyPost_ret (v := .tuple #[.agg #[.bool (decide (z < 0)), .slice (some ⟨gx, 0, none⟩) (digs W z.natAbs).length j], .int .i64 0]) (by simp [results, Try.results89, go_sem, r0, r1]) rfl
                (PostC.ok (by simp [err, hT]) hr.1 hr.2)
            · simp only [↓reduceIte, err]
              go_wp2
              exact bodyPost_ret (v := .tuple #[zeroV, .int .i64 10]) (by simp [results, Try.results89, go_sem, r0, r1]) rfl
                (PostC.bad (by simp [err, hT]) (by decide) ((HBw.out.setCell (by simp; omega) _).setCell (by simp; omega) _))
end Go.Proofs.Ytggdmhkdmkldoaa

import Derived.Test.YtggdmhkdmkldoaaEa
import Derived.Test.YtggdmhkdmkldoaaSh
import Derived.IntWalk
namespace Go.Proofs.Ytggdmhkdmkldoaa
open Go.RowKit Hb

set_option maxRecDepth 100000 in
set_option maxHeartbeats 2000000 in
theorem Shift_up (neg : Bool) {B : Nat} {A : Option Addr} {l : List Nat} {n c : Nat} {w : World} (hs : SlU w B A n c l) (hn : n ≤ 67108000) (hB : B ≤ w.heap.size) (hlg : lng l = false) (h0 : ival neg l ≠ 0) (k : Nat) (bl : Nat) (hbl : blen (nv W l) = bl) (hg : bl + k ≤ 4096) (Z : Int) (hZ : ival neg l * 2 ^ k = Z) :
    Calls Try.prog 55 #[.agg #[.bool neg, .slice A n c], .int .i64 (k : Int)] w (PostC w Z 0) := by
  have HL := Lib.hid (P1w_long (neg := neg) hs (by omega) hB)
  rw [hlg] at HL
  obtain ⟨s, hsg⟩ : ∃ s, (ival neg l).sign = s := ⟨_, rfl⟩
  have HSg : Hid (∀ w1, Below w.heap.size w w1 → Calls Try.prog 42 #[.agg #[.bool neg, .slice A n c]] w1 (CmpZPost s w1)) := Lib.hid (fun w1 hb => by rw [← hsg]; exact sign_any neg (hs.below (C := w.heap.size) hb hB) (Nat.le_trans hB hb.size))
  have hs0 : (s == 0) = false := beq_eq_false_iff_ne.2 (fun e => h0 (Int.sign_eq_zero_iff_zero.1 (hsg.trans e)))
  have HBt : Hid (∀ w1, Below w.heap.size w w1 → Calls Try.prog 45 #[.agg #[.bool neg, .slice A n c]] w1 (CmpZPost (bl : Int) w1)) := Lib.hid (fun w1 hb => by rw [← hbl]; exact bits_any neg (hs.below (C := w.heap.size) hb hB) (by omega) (Nat.le_trans hB hb.size))
  have hk0 : (0 : Int) ≤ (k : Int) := by omega
  have d1 : decide ((4096 : Int) < (k : Int)) = false := decide_eq_false (by omega)
  have d2 : decide (4096 < k) = false := decide_eq_false (by omega)
  have d3 : decide ((4096 : Int) < (bl : Int) + (k : Int)) = false := decide_eq_false (by omega)
  have hb4 : bl ≤ 4096 := by omega
  have hk4 : k ≤ 4096 := by omega
  obtain ⟨q, hq⟩ : ∃ q, k / 32 = q := ⟨_, rfl⟩
  obtain ⟨r, hr⟩ : ∃ r, k % 32 = r := ⟨_, rfl⟩
  have hqI : (k : Int) / 32 = (q : Int) := by omega
  have hrI : (k : Int) % 32 = (r : Int) := by omega
  have hmk := makeU q (by omega)
  have HQ := Lib.hid (show q ≤ maxLen by unfold maxLen; omega)
  have HQ2 := Lib.hid (show q + (n + 1) ≤ 67108864 by omega)
  have HShl := Lib.hid (fun w1 (hb : Below w.heap.size w w1) => shl_any (s := r) (hs.below (C := w.heap.size) hb hB) (by omega) (Nat.le_trans hB hb.size) (by omega))
  have HV : Hid (∀ o, nv W o = nv W l * 2 ^ r → ival neg (List.replicate q 0 ++ o) = Z) := Lib.hid (fun o ho => by
    have h1 := nv_up l o k (by rw [hr]; exact ho)
    rw [hq] at h1
    rw [← hZ]
    unfold ival
    rw [h1, Int.natCast_mul, two_pow_cast]
    split
    · rw [Int.neg_mul]
    · rfl)
  clear hs hn hB hlg h0 hsg hbl hg hq hr hZ
  go_enter Try.func55, Try.ntmps55
  go_wp2_with fail
  refine HL.out.mono ?_
  rintro ex w3 ⟨rfl, hb3⟩
  obtain ⟨h1, h2, h3, h4⟩ := P1w_after hb3
  obtain ⟨a0, a1, _, _⟩ := h1.facts
  obtain ⟨r0, r1, r2, r3⟩ := h2.facts
  have H1 := Lib.hid h1
  have H2 := Lib.hid h2
  have H3 := Lib.hid h3
  clear h1 h2 h3 hb3
  go_wp2_with fail
  refine (HSg.out _ H3.out).mono ?_
  rintro ex w4 ⟨rfl, hb4⟩
  have hz4 := hb4.size
  replace H1 := Lib.hid (H1.out.below hb4 (by omega))
  replace H2 := Lib.hid (H2.out.below hb4 (by omega))
  replace H3 := Lib.hid (H3.out.trans (hb4.mono (by omega)))
  clear hb4 a0 a1 r0 r1 r2 r3
  obtain ⟨a0, a1, _, _⟩ := H1.out.facts
  obtain ⟨r0, r1, r2, r3⟩ := H2.out.facts
  go_wp2_with fail
  refine (HBt.out _ H3.out).mono ?_
  rintro ex w5 ⟨rfl, hb5⟩
  have hz5 := hb5.size
  replace H1 := Lib.hid (H1.out.below hb5 (by omega))
  replace H2 := Lib.hid (H2.out.below hb5 (by omega))
  replace H3 := Lib.hid (H3.out.trans (hb5.mono (by omega)))
  clear hb5 a0 a1 r0 r1 r2 r3
  obtain ⟨a0, a1, _, _⟩ := H1.out.facts
  obtain ⟨r0, r1, r2, r3⟩ := H2.out.facts
  go_upto_region 8 with fail
  have hS := Lib.hid (fun w' (hb : Below w5.heap.size w5 w') => And.intro (H1.out.below hb (Bx.lt H1.out)).facts.1 (H1.out.below hb (Bx.lt H1.out)).facts.2.1)
  have hT := Lib.hid (fun w' (hb : Below w5.heap.size w5 w') => H2.out.below hb (Bx.lt H2.out))
  have KK : Below w5.heap.size w5 w5.drew := (Below.refl _ _).drew
  refine wp_region_wait (fun w' => w'.cell? ⟨w.heap.size, 0, none⟩ = some (.bool neg) ∧ w'.cell? ⟨w.heap.size, 1, none⟩ = some (.slice A n c)) 12 (by kernel_rfl) ?_
  change wpAnyW _ _ _ _ _ _ _ _ _ w5.drew
  have zd : w5.heap.size ≤ w5.drew.heap.size := Nat.le_refl _
  generalize w5.drew = u0 at *
  have hqw : IntKind.i64.wrap (q : Int) = (q : Int) := IntWalk.i64_in _ (by omega)
  have hrt : (k : Int).tmod 32 = (r : Int) := by rw [Int.tmod_eq_emod_of_nonneg hk0]; exact hrI
  refine wpAnyW_take 12 (i := 0) (v := .pointer (some ⟨w.heap.size, 0, none⟩)) rfl (by kernel_rfl) (by kernel_rfl) (by kernel_rfl) (by kernel_rfl) (fun _ _ _ h => h) (Or.inl ⟨by kernel_rfl, fun w5 hSw => by go_simp⟩) (hS.out _ KK) ?_
  refine wpAnyW_take 12 (i := 1) (v := .bool neg) rfl (by kernel_rfl) (by kernel_rfl) (by kernel_rfl) (by kernel_rfl) (fun _ _ _ h => h) (Or.inl ⟨by kernel_rfl, fun w5 hSw => by go_simp⟩) (hS.out _ KK) ?_
  refine wpAnyW_take 12 (i := 2) (v := .int .i64 (k : Int)) rfl (by kernel_rfl) (by kernel_rfl) (by kernel_rfl) (by kernel_rfl) (fun _ _ _ h => h) (Or.inl ⟨by kernel_rfl, fun w5 hSw => by go_simp⟩) (hS.out _ KK) ?_
  refine wpAnyW_take 12 (i := 3) (v := .int .i64 (q : Int)) rfl (by kernel_rfl) (by kernel_rfl) (by kernel_rfl) (by kernel_rfl) (fun _ _ _ h => h) (Or.inl ⟨by kernel_rfl, fun w5 hSw => by go_simp⟩) (hS.out _ KK) ?_
  refine wpAnyW_take 12 (i := 5) (v := .pointer (some ⟨w.heap.size, 1, none⟩)) rfl (by kernel_rfl) (by kernel_rfl) (by kernel_rfl) (by kernel_rfl) (fun _ _ _ h => h) (Or.inl ⟨by kernel_rfl, fun w5 hSw => by go_simp⟩) (hS.out _ KK) ?_
  refine wpAnyW_take 12 (i := 6) (v := .slice A n c) rfl (by kernel_rfl) (by kernel_rfl) (by kernel_rfl) (by kernel_rfl) (fun _ _ _ h => h) (Or.inl ⟨by kernel_rfl, fun w5 hSw => by go_simp⟩) (hS.out _ KK) ?_
  refine wpAnyW_take 12 (i := 7) (v := .int .i64 (k : Int)) rfl (by kernel_rfl) (by kernel_rfl) (by kernel_rfl) (by kernel_rfl) (fun _ _ _ h => h) (Or.inl ⟨by kernel_rfl, fun w5 hSw => by go_simp⟩) (hS.out _ KK) ?_
  refine wpAnyW_take 12 (i := 8) (v := .int .i64 (r : Int)) rfl (by kernel_rfl) (by kernel_rfl) (by kernel_rfl) (by kernel_rfl) (fun _ _ _ h => h) (Or.inl ⟨by kernel_rfl, fun w5 hSw => by go_simp⟩) (hS.out _ KK) ?_
  refine wpAnyW_two (i := 4) (i2 := 9) (by kernel_rfl) rfl rfl (fun K hK => ?_) (fun K hK => ?_) 
  · go_simp
    have omk := own_zeros u0 q (B := w5.heap.size) KK.size HQ.out
    have zu1 : u0.heap.size < (u0.alloc (.cells (madeCells #[.int .u32 0] q) 48)).heap.size := by simp
    replace KK := Below.alloc KK KK.size (.cells (madeCells #[.int .u32 0] q) 48)
    refine hK.out _ _ (fun _ => hS.out _ KK) ?_
    generalize u0.alloc (.cells (madeCells #[.int .u32 0] q) 48) = u1 at *
    generalize u0.heap.size = g2 at *
    refine wpAnyW_one (i := 9) (by kernel_rfl) rfl (fun K hK => ?_)
    go_simp
    (with_reducible refine (HShl.out _ (H3.out.trans (KK.mono (by omega)))).mono ?_)
    rintro ex u3 ⟨rfl, o, hol, hod, _, hov, osh, hbb⟩
    replace omk := Own.below omk hbb (Nat.le_refl _)
    replace KK := KK.trans (hbb.mono KK.size)
    have zu3 := hbb.size
    have zzu3 := (own_block osh rfl).2
    replace osh := Own.sl osh hod hol
    clear hbb
    refine hK.out _ _ (fun _ => hS.out _ KK) ?_
    generalize u1.heap.size = g4 at *
    refine wpAnyW_one (i := 10) (by kernel_rfl) rfl (fun K hK => ?_)
    rw [if_pos (by kernel_rfl)]
    refine wp_append_far (base := w5.heap.size) (l0 := List.replicate q 0) (l := o) (A := some ⟨g4, 0, none⟩) (A0 := some ⟨g2, 0, none⟩) (n0 := q) (c0 := q) (m := n + 1) (c := n + 1) _ _ (by rfl) (by rfl) omk (by rfl) (fun h => by cases h) osh HQ2.out KK.size ?_
    intro Aap cap u5 oap hbb hff _
    replace KK := KK.trans (hbb.mono (Nat.le_refl _))
    clear hbb hff omk osh
    refine hK.out _ _ (fun _ => hS.out _ KK) ?_
    refine wpAnyW_one (i := 11) (by kernel_rfl) rfl (fun K hK => ?_)
    go_simp
    (with_reducible refine (laid_at neg oap (by rw [List.length_append, List.length_replicate, hol]) ((Dig.replicate _ _ (by decide)).append hod) (HV.out o hov)).mono ?_)
    rintro ex u6 ⟨rfl, ores, hbb⟩
    replace KK := KK.trans (hbb.mono KK.size)
    clear hbb oap
    refine hK.out _ _ (fun _ => hS.out _ KK) ?_
    refine wpAnyW_one (i := 12) (by kernel_rfl) rfl (fun K hK => ?_)
    obtain ⟨t0, t1, t2, t3⟩ := (hT.out _ KK).facts
    go_simp
    refine hK.out _ _ (fun h => absurd h (by simp)) ?_
    refine wpAnyW_one (i := 13) (by kernel_rfl) rfl (fun K hK => ?_)
    go_simp
    refine hK.out _ _ (fun h => absurd h (by simp)) ?_
    refine wpAnyW_done (by kernel_rfl) ?_ _
    go_wp2
    exact bodyPost_ret (v := .tuple #[.agg #[.bool (decide (Z < 0)), .slice Aap (digs W Z.natAbs).length cap], .int .i64 0]) (by simp [results, Try.results55, go_sem, t0, t1]) rfl
      (PostC.ok rfl (ResI.stored (w := w) (g := w.heap.size + 1) ⟨Aap, cap, rfl, ores⟩ (H3.out.trans (KK.mono (B' := w.heap.size) H3.out.size)) (by omega) (by omega)).1 (ResI.stored (w := w) (g := w.heap.size + 1) ⟨Aap, cap, rfl, ores⟩ (H3.out.trans (KK.mono (B' := w.heap.size) H3.out.size)) (by omega) (by omega)).2)
  · go_simp
    (with_reducible refine (HShl.out _ (H3.out.trans (KK.mono (by omega)))).mono ?_)
    rintro ex u7 ⟨rfl, o, hol, hod, _, hov, osh, hbb⟩
    replace KK := KK.trans (hbb.mono KK.size)
    have zu7 := hbb.size
    have zzu7 := (own_block osh rfl).2
    replace osh := Own.sl osh hod hol
    clear hbb
    refine hK.out _ _ (fun _ => hS.out _ KK) ?_
    generalize u0.heap.size = g8 at *
    refine wpAnyW_one (i := 4) (by kernel_rfl) rfl (fun K hK => ?_)
    go_simp
    replace osh := SlU.to osh ((Below.refl u7.heap.size u7).alloc (Nat.le_refl _) (.cells (madeCells #[.int .u32 0] q) 48)) (Nat.le_refl _)
    have omk := own_zeros u7 q (B := w5.heap.size) KK.size HQ.out
    have zu9 : u7.heap.size < (u7.alloc (.cells (madeCells #[.int .u32 0] q) 48)).heap.size := by simp
    replace KK := Below.alloc KK KK.size (.cells (madeCells #[.int .u32 0] q) 48)
    refine hK.out _ _ (fun _ => hS.out _ KK) ?_
    generalize u7.alloc (.cells (madeCells #[.int .u32 0] q) 48) = u9 at *
    generalize u7.heap.size = g10 at *
    refine wpAnyW_one (i := 10) (by kernel_rfl) rfl (fun K hK => ?_)
    rw [if_pos (by kernel_rfl)]
    refine wp_append_far (base := w5.heap.size) (l0 := List.replicate q 0) (l := o) (A := some ⟨g8, 0, none⟩) (A0 := some ⟨g10, 0, none⟩) (n0 := q) (c0 := q) (m := n + 1) (c := n + 1) _ _ (by rfl) (by rfl) omk (by rfl) (fun h => by cases h) osh HQ2.out KK.size ?_
    intro Aap cap u11 oap hbb hff _
    replace KK := KK.trans (hbb.mono (Nat.le_refl _))
    clear hbb hff omk osh
    refine hK.out _ _ (fun _ => hS.out _ KK) ?_
    refine wpAnyW_one (i := 11) (by kernel_rfl) rfl (fun K hK => ?_)
    go_simp
    (with_reducible refine (laid_at neg oap (by rw [List.length_append, List.length_replicate, hol]) ((Dig.replicate _ _ (by decide)).append hod) (HV.out o hov)).mono ?_)
    rintro ex u12 ⟨rfl, ores, hbb⟩
    replace KK := KK.trans (hbb.mono KK.size)
    clear hbb oap
    refine hK.out _ _ (fun _ => hS.out _ KK) ?_
    refine wpAnyW_one (i := 12) (by kernel_rfl) rfl (fun K hK => ?_)
    obtain ⟨t0, t1, t2, t3⟩ := (hT.out _ KK).facts
    go_simp
    refine hK.out _ _ (fun h => absurd h (by simp)) ?_
    refine wpAnyW_one (i := 13) (by kernel_rfl) rfl (fun K hK => ?_)
    go_simp
    refine hK.out _ _ (fun h => absurd h (by simp)) ?_
    refine wpAnyW_done (by kernel_rfl) ?_ _
    go_wp2
    exact bodyPost_ret (v := .tuple #[.agg #[.bool (decide (Z < 0)), .slice Aap (digs W Z.natAbs).length cap], .int .i64 0]) (by simp [results, Try.results55, go_sem, t0, t1]) rfl
      (PostC.ok rfl (ResI.stored (w := w) (g := w.heap.size + 1) ⟨Aap, cap, rfl, ores⟩ (H3.out.trans (KK.mono (B' := w.heap.size) H3.out.size)) (by omega) (by omega)).1 (ResI.stored (w := w) (g := w.heap.size + 1) ⟨Aap, cap, rfl, ores⟩ (H3.out.trans (KK.mono (B' := w.heap.size) H3.out.size)) (by omega) (by omega)).2)
end Go.Proofs.Ytggdmhkdmkldoaa

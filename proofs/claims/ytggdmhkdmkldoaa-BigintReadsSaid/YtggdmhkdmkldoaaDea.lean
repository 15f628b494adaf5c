import Derived.Test.YtggdmhkdmkldoaaCr
namespace Go.Proofs.Ytggdmhkdmkldoaa
open Go.RowKit Hb

set_option maxRecDepth 100000 in
set_option maxHeartbeats 8000000 in
theorem Reads_ts (na nb : Bool) {Aa Ab : Option Addr} {la lb l_a l_b : List Nat} {n_a ca n_b cb m_a m_b : Nat} {w : World} {za zb k : Int} {r : Nat} {sa sb : ByteArray} (hsa : SlU w w.heap.size Aa n_a ca la) (hsb : SlU w w.heap.size Ab n_b cb lb)
    (HFew_a : Hid (∀ w, SlU w w.heap.size Aa n_a ca la → Calls Try.prog 31 #[.agg #[.bool na, .slice Aa n_a ca], .int .i64 128] w (FewQ w na l_a m_a))) (HFew_b : Hid (∀ w, SlU w w.heap.size Ab n_b cb lb → Calls Try.prog 31 #[.agg #[.bool nb, .slice Ab n_b cb], .int .i64 128] w (FewQ w nb l_b m_b)))
    (HM_a : Hid (l_a.length = m_a ∧ m_a ≤ 128 ∧ Dig W l_a)) (HM_b : Hid (l_b.length = m_b ∧ m_b ≤ 128 ∧ Dig W l_b)) (HI_a : Hid (ival na l_a = za)) (HI_b : Hid (ival nb l_b = zb)) (T_za : Hid (tooLong za = false)) (T_zb : Hid (tooLong zb = false))
    (HRb : Hid (2 ≤ r ∧ r ≤ 36)) (HSa : Hid (strN (txtZ za r) = sa)) (HSb : Hid (strN (txtZ zb r) = sb)) (HSz : Hid (sa.size ≤ maxLen)) (hk : -9223372036854775808 ≤ k ∧ k ≤ 9223372036854775807) (hk0 : ¬ k < 0) (hR : (r : Int) = 2 + k % 35) (hz : za = zb) :
    Calls Try.prog 5 #[.agg #[.bool na, .slice Aa n_a ca], .agg #[.bool nb, .slice Ab n_b cb], .int .i64 k] w fun e w' => e = .returned (.bool true) ∧ Below w.heap.size w w' := by
  have HI2 := Lib.hid (show ival na (l_a ++ [0, 0]) = za by rw [← HI_a.out]; unfold ival; rw [show ([0, 0] : List Nat) = List.replicate 2 0 from rfl, nv_zeros])
  obtain ⟨hk1, hk2⟩ := hk
  have hd1 : decide (k < 0) = false := decide_eq_false hk0
  have hk3 : 0 ≤ k := by omega
  have hE : 2 + k % 35 = (r : Int) := hR.symm
  clear hR hk0
  have HCab := Lib.hid (show cmpZ za zb = 0 from cmpZ_zero.2 hz)
  obtain rfl : sa = sb := by rw [← HSa.out, ← HSb.out, hz]
  have hss : (sa == sa) = true := by show (sa.data == sa.data) = true; simp
  clear hz
  have K0 := Env.box (Env.nil w) (Old.nil w) (neg := na) hsa rfl
  have HN0 := Lib.hid (Env.box K0.1 K0.2 (neg := nb) hsb (g := w.heap.size + 1) (by simp))
  clear K0 hsa hsb
  go_enter Try.func5, Try.ntmps5
  go_wp2_with fail
  refine (awake_any _).mono ?_
  rintro ex w1 ⟨rfl, hb1⟩
  have HN1 : Hid (Env w w1 [⟨w.heap.size + 1, nb, Ab, n_b, cb, lb⟩, ⟨w.heap.size, na, Aa, n_a, ca, la⟩] ∧ Old w1 [⟨w.heap.size + 1, nb, Ab, n_b, cb, lb⟩, ⟨w.heap.size, na, Aa, n_a, ca, la⟩]) := Lib.hid ⟨HN0.out.1.below hb1, HN0.out.2.below hb1⟩
  clear hb1
  go_upto_region 2 with fail
  obtain ⟨x2a, x2b, x2c, x2d⟩ := (HN1.out.1.x (.tail _ (.head _))).facts
  go_wp2_with fail
  refine (HFew_a.out _ (HN1.out.1.s (.tail _ (.head _)))).mono ?_
  rintro ex w3' ⟨A3, c3, rfl, ho3, hb3⟩
  have HAn := Lib.hid (own_none ho3)
  obtain ⟨y3a, y3b, y3c, y3d⟩ := ((HN1.out.1.below hb3).x (.tail _ (.head _))).facts
  have HN3 : Hid (Env w ((w3'.setCell ⟨w.heap.size, 0, none⟩ (.bool na)).setCell ⟨w.heap.size, 1, none⟩ (.slice A3 m_a c3)) [⟨w.heap.size + 1, nb, Ab, n_b, cb, lb⟩, ⟨w.heap.size, na, A3, m_a, c3, l_a⟩] ∧ Old ((w3'.setCell ⟨w.heap.size, 0, none⟩ (.bool na)).setCell ⟨w.heap.size, 1, none⟩ (.slice A3 m_a c3)) [⟨w.heap.size + 1, nb, Ab, n_b, cb, lb⟩, ⟨w.heap.size, na, A3, m_a, c3, l_a⟩]) := Lib.hid (Env.call_set HN1.out.1 HN1.out.2 hb3 ho3 HM_a.out.2.2 HM_a.out.1 1 rfl)
  clear ho3 hb3 x2a x2b x2c x2d
  go_upto_region 3 with fail
  generalize ((w3'.setCell ⟨w.heap.size, 0, none⟩ (.bool na)).setCell ⟨w.heap.size, 1, none⟩ (.slice A3 m_a c3)) = w3 at *
  clear y3a y3b y3c y3d
  go_upto_region 3 with fail
  obtain ⟨x4a, x4b, x4c, x4d⟩ := (HN3.out.1.x (.head _)).facts
  go_wp2_with fail
  refine (HFew_b.out _ (HN3.out.1.s (.head _))).mono ?_
  rintro ex w5' ⟨A5, c5, rfl, ho5, hb5⟩
  obtain ⟨y5a, y5b, y5c, y5d⟩ := ((HN3.out.1.below hb5).x (.head _)).facts
  have HN5 : Hid (Env w ((w5'.setCell ⟨w.heap.size + 1, 0, none⟩ (.bool nb)).setCell ⟨w.heap.size + 1, 1, none⟩ (.slice A5 m_b c5)) [⟨w.heap.size + 1, nb, A5, m_b, c5, l_b⟩, ⟨w.heap.size, na, A3, m_a, c3, l_a⟩] ∧ Old ((w5'.setCell ⟨w.heap.size + 1, 0, none⟩ (.bool nb)).setCell ⟨w.heap.size + 1, 1, none⟩ (.slice A5 m_b c5)) [⟨w.heap.size + 1, nb, A5, m_b, c5, l_b⟩, ⟨w.heap.size, na, A3, m_a, c3, l_a⟩]) := Lib.hid (Env.call_set HN3.out.1 HN3.out.2 hb5 ho5 HM_b.out.2.2 HM_b.out.1 0 rfl)
  clear ho5 hb5 x4a x4b x4c x4d
  go_upto_region 4 with fail
  generalize ((w5'.setCell ⟨w.heap.size + 1, 0, none⟩ (.bool nb)).setCell ⟨w.heap.size + 1, 1, none⟩ (.slice A5 m_b c5)) = w5 at *
  clear y5a y5b y5c y5d
  go_upto_region 7 with fail
  clear hE hk3 hk1 hk2 hd1
  go_upto_region 7 with fail
  obtain ⟨x6a, x6b, x6c, x6d⟩ := (HN5.out.1.x (.tail _ (.head _))).facts
  go_wp2_with fail
  refine (Text_z rfl HRb.out.1 HRb.out.2 (HN5.out.1.s (.tail _ (.head _))) (Nat.le_trans HM_a.out.2.1 (by decide)) HI_a.out T_za.out HSa.out).mono ?_
  rintro ex w7' ⟨rfl, hb7⟩
  have HN7 : Hid (Env w w7' [⟨w.heap.size + 1, nb, A5, m_b, c5, l_b⟩, ⟨w.heap.size, na, A3, m_a, c3, l_a⟩] ∧ Old w7' [⟨w.heap.size + 1, nb, A5, m_b, c5, l_b⟩, ⟨w.heap.size, na, A3, m_a, c3, l_a⟩]) := Lib.hid ⟨HN5.out.1.below hb7, HN5.out.2.below hb7⟩
  clear hb7 x6a x6b x6c x6d
  go_upto_region 8 with fail
  go_upto_region 8 with fail
  obtain ⟨x8a, x8b, x8c, x8d⟩ := (HN7.out.1.x (.head _)).facts
  go_wp2_with fail
  refine (Text_z rfl HRb.out.1 HRb.out.2 (HN7.out.1.s (.head _)) (Nat.le_trans HM_b.out.2.1 (by decide)) HI_b.out T_zb.out HSb.out).mono ?_
  rintro ex w9' ⟨rfl, hb9⟩
  have HN9 : Hid (Env w w9' [⟨w.heap.size + 1, nb, A5, m_b, c5, l_b⟩, ⟨w.heap.size, na, A3, m_a, c3, l_a⟩] ∧ Old w9' [⟨w.heap.size + 1, nb, A5, m_b, c5, l_b⟩, ⟨w.heap.size, na, A3, m_a, c3, l_a⟩]) := Lib.hid ⟨HN7.out.1.below hb9, HN7.out.2.below hb9⟩
  clear hb9 x8a x8b x8c x8d
  go_upto_region 9 with fail
  go_cut [12, 13] (fun s12 s13 wx => s12 = .string sa ∧ s13 = .int .i64 0 ∧ Below w9'.heap.size w9' wx)
  case first =>
    have hS := Lib.hid (fun w' (hb : Below w9'.heap.size w9' w') => And.intro ((HN9.out.1.below hb).x (.tail _ (.head _))).facts.1 ((HN9.out.1.below hb).x (.tail _ (.head _))).facts.2.1)
    have hR9 := Lib.hid (fun w' (hb : Below w9'.heap.size w9' w') => (HN9.out.1.s (.tail _ (.head _))).below hb (Nat.le_refl _))
    obtain ⟨x0, x1, _, _⟩ := (HN9.out.1.x (.tail _ (.head _))).facts
    have KK : Below w9'.heap.size w9' w9'.drew := (Below.refl _ _).drew
    refine wp_region_wait (fun w' => (w'.cell? ⟨w.heap.size, 0, none⟩ = some (.bool na) ∧ w'.cell? ⟨w.heap.size, 1, none⟩ = some (.slice A3 m_a c3))) 15 (by kernel_rfl) ?_
    change wpAnyW _ _ _ _ _ _ _ _ _ w9'.drew
    generalize w9'.drew = u0 at *
    refine wpAnyW_take 15 (i := 0) (v := .pointer (some ⟨w.heap.size, 0, none⟩)) rfl (by kernel_rfl) (by kernel_rfl) (by kernel_rfl) (by kernel_rfl) (fun _ _ _ h => h) (Or.inl ⟨by kernel_rfl, fun w5 hSw => by go_simp⟩) (hS.out _ KK) ?_
    refine wpAnyW_take 15 (i := 1) (v := .bool na) rfl (by kernel_rfl) (by kernel_rfl) (by kernel_rfl) (by kernel_rfl) (fun _ _ _ h => h) (Or.inl ⟨by kernel_rfl, fun w5 hSw => by go_simp⟩) (hS.out _ KK) ?_
    refine wpAnyW_take 15 (i := 3) (v := .pointer (some ⟨w.heap.size, 1, none⟩)) rfl (by kernel_rfl) (by kernel_rfl) (by kernel_rfl) (by kernel_rfl) (fun _ _ _ h => h) (Or.inl ⟨by kernel_rfl, fun w5 hSw => by go_simp⟩) (hS.out _ KK) ?_
    refine wpAnyW_take 15 (i := 4) (v := .slice A3 m_a c3) rfl (by kernel_rfl) (by kernel_rfl) (by kernel_rfl) (by kernel_rfl) (fun _ _ _ h => h) (Or.inl ⟨by kernel_rfl, fun w5 hSw => by go_simp⟩) (hS.out _ KK) ?_
    refine wpAnyW_take 15 (i := 9) (v := .int .i64 (r : Int)) rfl (by kernel_rfl) (by kernel_rfl) (by kernel_rfl) (by kernel_rfl) (fun _ _ _ h => h) (Or.inl ⟨by kernel_rfl, fun w5 hSw => by go_simp⟩) (hS.out _ KK) ?_
    refine wpAnyW_two (i := 2) (i2 := 6) (by kernel_rfl) rfl rfl (fun K hK => ?_) (fun K hK => ?_) 
    · go_simp
      have oe : OwnU (u0.alloc (.cells #[] 48)) w9'.heap.size (some ⟨u0.heap.size, 0, none⟩) 0 0 (u32s []) := Own.of_block (xs := []) (by exact heap_alloc_new u0 _) KK.size (by simp [maxLen])
      have zu1 : u0.heap.size < (u0.alloc (.cells #[] 48)).heap.size := by simp
      replace KK := Below.alloc KK KK.size (.cells #[] 48)
      refine hK.out _ _ (fun _ => hS.out _ KK) ?_
      generalize u0.alloc (.cells #[] 48) = u1 at *
      generalize u0.heap.size = g2 at *
      refine wpAnyW_two (i := 5) (i2 := 6) (by kernel_rfl) rfl rfl (fun K hK => ?_) (fun K hK => ?_) 
      · rw [if_pos (by kernel_rfl)]
        refine wp_append_far (base := w9'.heap.size) (l0 := []) (l := l_a) (A := A3) (A0 := some ⟨g2, 0, none⟩) (n0 := 0) (c0 := 0) (m := m_a) (c := c3) _ _ (by rfl) (by rfl) oe (by rfl) HAn.out (hR9.out _ KK) (Nat.le_trans (Nat.le_of_eq (Nat.zero_add _)) (Nat.le_trans HM_a.out.2.1 (by decide))) KK.size ?_
        intro Aap cap u3 oap hbb hff hat
        rw [Nat.zero_add] at oap ⊢
        rw [List.nil_append] at oap
        replace KK := KK.trans (hbb.mono (Nat.le_refl _))
        clear hbb hff hat oe
        refine hK.out _ _ (fun _ => hS.out _ KK) ?_
        refine wpAnyW_one (i := 6) (by kernel_rfl) rfl (fun K hK => ?_)
        go_simp
        replace oap := Own.alloc oap (.cells #[.int .u32 0, .int .u32 0] 48)
        have oz := own_two u3 (B := w9'.heap.size) 0 0 rfl KK.size
        have zu4 : u3.heap.size < (u3.alloc (.cells #[.int .u32 0, .int .u32 0] 48)).heap.size := by simp
        replace KK := Below.alloc KK KK.size (.cells #[.int .u32 0, .int .u32 0] 48)
        refine hK.out _ _ (fun _ => hS.out _ KK) ?_
        generalize u3.alloc (.cells #[.int .u32 0, .int .u32 0] 48) = u4 at *
        generalize u3.heap.size = g5 at *
        refine wpAnyW_one (i := 7) (by kernel_rfl) rfl (fun K hK => ?_)
        rw [if_pos (by kernel_rfl)]
        have hz7 := Own.sl oz (dig_two (by decide) (by decide)) rfl
        refine wp_append_far (base := w9'.heap.size) (l0 := l_a) (l := [0, 0]) (A := some ⟨g5, 0, none⟩) (A0 := Aap) (n0 := m_a) (c0 := cap) (m := 2) (c := 2) _ _ (by rfl) (by rfl) oap (by rfl) (fun h => by cases h) hz7 (Nat.le_trans (Nat.add_le_add_right HM_a.out.2.1 2) (by decide)) KK.size ?_
        intro A9 c9 u6 ho9 hbb _ _
        replace KK := KK.trans (hbb.mono (Nat.le_refl _))
        clear hbb oap oz hz7
        refine hK.out _ _ (fun _ => hS.out _ KK) ?_
        refine wpAnyW_take 15 (i := 8) (v := .agg #[.bool na, .slice A9 (m_a + 2) c9]) rfl (by kernel_rfl) (by kernel_rfl) (by kernel_rfl) (by kernel_rfl) (fun _ _ _ h => h) (Or.inl ⟨by kernel_rfl, fun w5 hSw => by go_simp⟩) (hS.out _ KK) ?_
        refine wpAnyW_one (i := 10) (by kernel_rfl) rfl (fun K hK => ?_)
        go_simp
        (with_reducible refine (Text_z rfl HRb.out.1 HRb.out.2 (Own.sl ho9 (HM_a.out.2.2.append (dig_two (by decide) (by decide))) (by simp [HM_a.out.1])) (by have := HM_a.out.2.1; omega) HI2.out T_za.out HSa.out).mono ?_)
        rintro e y10 ⟨rfl, hb10⟩
        replace KK := KK.trans (hb10.mono KK.size)
        clear hb10 ho9
        refine hK.out _ _ (fun _ => hS.out _ KK) ?_
        refine wpAnyW_one (i := 11) (by kernel_rfl) rfl (fun K hK => ?_)
        go_simp
        refine hK.out _ _ (fun _ => hS.out _ KK) ?_
        refine wpAnyW_take 14 (i := 12) (v := .string sa) rfl (by kernel_rfl) (by kernel_rfl) (by kernel_rfl) (by kernel_rfl) (fun _ _ _ h => h) (Or.inl ⟨by kernel_rfl, fun w5 hSw => by go_simp⟩) (hS.out _ KK) ?_
        refine wpAnyW_take 15 (i := 13) (v := .int .i64 0) rfl (by kernel_rfl) (by kernel_rfl) (by kernel_rfl) (by kernel_rfl) (fun _ _ _ h => h) (Or.inl ⟨by kernel_rfl, fun w5 hSw => by go_simp⟩) (hS.out _ KK) ?_
        refine wpAnyW_one (i := 14) (by kernel_rfl) rfl (fun K hK => ?_)
        go_simp
        refine hK.out _ _ (fun _ => hS.out _ KK) ?_
        refine wpAnyW_one (i := 15) (by kernel_rfl) rfl (fun K hK => ?_)
        go_simp
        refine hK.out _ _ (fun h => absurd h (by simp)) ?_
        refine wpAnyW_done (by kernel_rfl) ?_ _
        go_wp2_with fail
        go_meet
        exact ⟨rfl, rfl, KK⟩
      · go_simp
        replace oe := Own.alloc oe (.cells #[.int .u32 0, .int .u32 0] 48)
        have oz := own_two u1 (B := w9'.heap.size) 0 0 rfl KK.size
        have zu7 : u1.heap.size < (u1.alloc (.cells #[.int .u32 0, .int .u32 0] 48)).heap.size := by simp
        replace KK := Below.alloc KK KK.size (.cells #[.int .u32 0, .int .u32 0] 48)
        refine hK.out _ _ (fun _ => hS.out _ KK) ?_
        generalize u1.alloc (.cells #[.int .u32 0, .int .u32 0] 48) = u7 at *
        generalize u1.heap.size = g8 at *
        refine wpAnyW_one (i := 5) (by kernel_rfl) rfl (fun K hK => ?_)
        rw [if_pos (by kernel_rfl)]
        refine wp_append_far (base := w9'.heap.size) (l0 := []) (l := l_a) (A := A3) (A0 := some ⟨g2, 0, none⟩) (n0 := 0) (c0 := 0) (m := m_a) (c := c3) _ _ (by rfl) (by rfl) oe (by rfl) HAn.out (hR9.out _ KK) (Nat.le_trans (Nat.le_of_eq (Nat.zero_add _)) (Nat.le_trans HM_a.out.2.1 (by decide))) KK.size ?_
        intro Aap cap u9 oap hbb hff hat
        rw [Nat.zero_add] at oap ⊢
        rw [List.nil_append] at oap
        have lz := (own_block oz rfl).2
        have le := (own_block oe rfl).2
        have hne : g8 ≠ g2 := by omega
        replace oz := Own.same oz (hff g8 lz (by intro e; injection e with e; injection e with e _ _; exact hne e.symm))
        clear lz le hne
        replace KK := KK.trans (hbb.mono (Nat.le_refl _))
        clear hbb hff hat oe
        refine hK.out _ _ (fun _ => hS.out _ KK) ?_
        refine wpAnyW_one (i := 7) (by kernel_rfl) rfl (fun K hK => ?_)
        rw [if_pos (by kernel_rfl)]
        have hz7 := Own.sl oz (dig_two (by decide) (by decide)) rfl
        refine wp_append_far (base := w9'.heap.size) (l0 := l_a) (l := [0, 0]) (A := some ⟨g8, 0, none⟩) (A0 := Aap) (n0 := m_a) (c0 := cap) (m := 2) (c := 2) _ _ (by rfl) (by rfl) oap (by rfl) (fun h => by cases h) hz7 (Nat.le_trans (Nat.add_le_add_right HM_a.out.2.1 2) (by decide)) KK.size ?_
        intro A9 c9 u10 ho9 hbb _ _
        replace KK := KK.trans (hbb.mono (Nat.le_refl _))
        clear hbb oap oz hz7
        refine hK.out _ _ (fun _ => hS.out _ KK) ?_
        refine wpAnyW_take 15 (i := 8) (v := .agg #[.bool na, .slice A9 (m_a + 2) c9]) rfl (by kernel_rfl) (by kernel_rfl) (by kernel_rfl) (by kernel_rfl) (fun _ _ _ h => h) (Or.inl ⟨by kernel_rfl, fun w5 hSw => by go_simp⟩) (hS.out _ KK) ?_
        refine wpAnyW_one (i := 10) (by kernel_rfl) rfl (fun K hK => ?_)
        go_simp
        (with_reducible refine (Text_z rfl HRb.out.1 HRb.out.2 (Own.sl ho9 (HM_a.out.2.2.append (dig_two (by decide) (by decide))) (by simp [HM_a.out.1])) (by have := HM_a.out.2.1; omega) HI2.out T_za.out HSa.out).mono ?_)
        rintro e y10 ⟨rfl, hb10⟩
        replace KK := KK.trans (hb10.mono KK.size)
        clear hb10 ho9
        refine hK.out _ _ (fun _ => hS.out _ KK) ?_
        refine wpAnyW_one (i := 11) (by kernel_rfl) rfl (fun K hK => ?_)
        go_simp
        refine hK.out _ _ (fun _ => hS.out _ KK) ?_
        refine wpAnyW_take 14 (i := 12) (v := .string sa) rfl (by kernel_rfl) (by kernel_rfl) (by kernel_rfl) (by kernel_rfl) (fun _ _ _ h => h) (Or.inl ⟨by kernel_rfl, fun w5 hSw => by go_simp⟩) (hS.out _ KK) ?_
        refine wpAnyW_take 15 (i := 13) (v := .int .i64 0) rfl (by kernel_rfl) (by kernel_rfl) (by kernel_rfl) (by kernel_rfl) (fun _ _ _ h => h) (Or.inl ⟨by kernel_rfl, fun w5 hSw => by go_simp⟩) (hS.out _ KK) ?_
        refine wpAnyW_one (i := 14) (by kernel_rfl) rfl (fun K hK => ?_)
        go_simp
        refine hK.out _ _ (fun _ => hS.out _ KK) ?_
        refine wpAnyW_one (i := 15) (by kernel_rfl) rfl (fun K hK => ?_)
        go_simp
        refine hK.out _ _ (fun h => absurd h (by simp)) ?_
        refine wpAnyW_done (by kernel_rfl) ?_ _
        go_wp2_with fail
        go_meet
        exact ⟨rfl, rfl, KK⟩
    · go_simp
      have oz := own_two u0 (B := w9'.heap.size) 0 0 rfl KK.size
      have zu11 : u0.heap.size < (u0.alloc (.cells #[.int .u32 0, .int .u32 0] 48)).heap.size := by simp
      replace KK := Below.alloc KK KK.size (.cells #[.int .u32 0, .int .u32 0] 48)
      refine hK.out _ _ (fun _ => hS.out _ KK) ?_
      generalize u0.alloc (.cells #[.int .u32 0, .int .u32 0] 48) = u11 at *
      generalize u0.heap.size = g12 at *
      refine wpAnyW_one (i := 2) (by kernel_rfl) rfl (fun K hK => ?_)
      go_simp
      replace oz := Own.alloc oz (.cells #[] 48)
      have oe : OwnU (u11.alloc (.cells #[] 48)) w9'.heap.size (some ⟨u11.heap.size, 0, none⟩) 0 0 (u32s []) := Own.of_block (xs := []) (by exact heap_alloc_new u11 _) KK.size (by simp [maxLen])
      have zu13 : u11.heap.size < (u11.alloc (.cells #[] 48)).heap.size := by simp
      replace KK := Below.alloc KK KK.size (.cells #[] 48)
      refine hK.out _ _ (fun _ => hS.out _ KK) ?_
      generalize u11.alloc (.cells #[] 48) = u13 at *
      generalize u11.heap.size = g14 at *
      refine wpAnyW_one (i := 5) (by kernel_rfl) rfl (fun K hK => ?_)
      rw [if_pos (by kernel_rfl)]
      refine wp_append_far (base := w9'.heap.size) (l0 := []) (l := l_a) (A := A3) (A0 := some ⟨g14, 0, none⟩) (n0 := 0) (c0 := 0) (m := m_a) (c := c3) _ _ (by rfl) (by rfl) oe (by rfl) HAn.out (hR9.out _ KK) (Nat.le_trans (Nat.le_of_eq (Nat.zero_add _)) (Nat.le_trans HM_a.out.2.1 (by decide))) KK.size ?_
      intro Aap cap u15 oap hbb hff hat
      rw [Nat.zero_add] at oap ⊢
      rw [List.nil_append] at oap
      have lz := (own_block oz rfl).2
      have le := (own_block oe rfl).2
      have hne : g12 ≠ g14 := by omega
      replace oz := Own.same oz (hff g12 lz (by intro e; injection e with e; injection e with e _ _; exact hne e.symm))
      clear lz le hne
      replace KK := KK.trans (hbb.mono (Nat.le_refl _))
      clear hbb hff hat oe
      refine hK.out _ _ (fun _ => hS.out _ KK) ?_
      refine wpAnyW_one (i := 7) (by kernel_rfl) rfl (fun K hK => ?_)
      rw [if_pos (by kernel_rfl)]
      have hz7 := Own.sl oz (dig_two (by decide) (by decide)) rfl
      refine wp_append_far (base := w9'.heap.size) (l0 := l_a) (l := [0, 0]) (A := some ⟨g12, 0, none⟩) (A0 := Aap) (n0 := m_a) (c0 := cap) (m := 2) (c := 2) _ _ (by rfl) (by rfl) oap (by rfl) (fun h => by cases h) hz7 (Nat.le_trans (Nat.add_le_add_right HM_a.out.2.1 2) (by decide)) KK.size ?_
      intro A9 c9 u16 ho9 hbb _ _
      replace KK := KK.trans (hbb.mono (Nat.le_refl _))
      clear hbb oap oz hz7
      refine hK.out _ _ (fun _ => hS.out _ KK) ?_
      refine wpAnyW_take 15 (i := 8) (v := .agg #[.bool na, .slice A9 (m_a + 2) c9]) rfl (by kernel_rfl) (by kernel_rfl) (by kernel_rfl) (by kernel_rfl) (fun _ _ _ h => h) (Or.inl ⟨by kernel_rfl, fun w5 hSw => by go_simp⟩) (hS.out _ KK) ?_
      refine wpAnyW_one (i := 10) (by kernel_rfl) rfl (fun K hK => ?_)
      go_simp
      (with_reducible refine (Text_z rfl HRb.out.1 HRb.out.2 (Own.sl ho9 (HM_a.out.2.2.append (dig_two (by decide) (by decide))) (by simp [HM_a.out.1])) (by have := HM_a.out.2.1; omega) HI2.out T_za.out HSa.out).mono ?_)
      rintro e y10 ⟨rfl, hb10⟩
      replace KK := KK.trans (hb10.mono KK.size)
      clear hb10 ho9
      refine hK.out _ _ (fun _ => hS.out _ KK) ?_
      refine wpAnyW_one (i := 11) (by kernel_rfl) rfl (fun K hK => ?_)
      go_simp
      refine hK.out _ _ (fun _ => hS.out _ KK) ?_
      refine wpAnyW_take 14 (i := 12) (v := .string sa) rfl (by kernel_rfl) (by kernel_rfl) (by kernel_rfl) (by kernel_rfl) (fun _ _ _ h => h) (Or.inl ⟨by kernel_rfl, fun w5 hSw => by go_simp⟩) (hS.out _ KK) ?_
      refine wpAnyW_take 15 (i := 13) (v := .int .i64 0) rfl (by kernel_rfl) (by kernel_rfl) (by kernel_rfl) (by kernel_rfl) (fun _ _ _ h => h) (Or.inl ⟨by kernel_rfl, fun w5 hSw => by go_simp⟩) (hS.out _ KK) ?_
      refine wpAnyW_one (i := 14) (by kernel_rfl) rfl (fun K hK => ?_)
      go_simp
      refine hK.out _ _ (fun _ => hS.out _ KK) ?_
      refine wpAnyW_one (i := 15) (by kernel_rfl) rfl (fun K hK => ?_)
      go_simp
      refine hK.out _ _ (fun h => absurd h (by simp)) ?_
      refine wpAnyW_done (by kernel_rfl) ?_ _
      go_wp2_with fail
      go_meet
      exact ⟨rfl, rfl, KK⟩
  case rest =>
    obtain ⟨rfl, rfl, hbc⟩ := hcut
    have HN90 : Hid (Env w wc [⟨w.heap.size + 1, nb, A5, m_b, c5, l_b⟩, ⟨w.heap.size, na, A3, m_a, c3, l_a⟩] ∧ Old wc [⟨w.heap.size + 1, nb, A5, m_b, c5, l_b⟩, ⟨w.heap.size, na, A3, m_a, c3, l_a⟩]) := Lib.hid ⟨HN9.out.1.below hbc, HN9.out.2.below hbc⟩
    clear hbc
    go_upto_region 10 with fail
    go_wp2_with fail
    refine (Parse_z rfl HRb.out.1 HRb.out.2 T_za.out HSa.out HSz.out).mono ?_
    rintro ex w10' ⟨v, rfl, ⟨A10, c10, rfl, ho10⟩, hb10⟩
    have HN10 : Hid (Env w (w10'.alloc (.cells #[.bool (decide (za < 0)), .slice A10 (digs W za.natAbs).length c10] 24)) [⟨w10'.heap.size, (decide (za < 0)), A10, (digs W za.natAbs).length, c10, (digs W za.natAbs)⟩, ⟨w.heap.size + 1, nb, A5, m_b, c5, l_b⟩, ⟨w.heap.size, na, A3, m_a, c3, l_a⟩] ∧ Old (w10'.alloc (.cells #[.bool (decide (za < 0)), .slice A10 (digs W za.natAbs).length c10] 24)) [⟨w10'.heap.size, (decide (za < 0)), A10, (digs W za.natAbs).length, c10, (digs W za.natAbs)⟩, ⟨w.heap.size + 1, nb, A5, m_b, c5, l_b⟩, ⟨w.heap.size, na, A3, m_a, c3, l_a⟩]) := Lib.hid (Env.call_push HN90.out.1 HN90.out.2 hb10 ho10 (dig_digs (by decide) _) rfl)
    clear ho10 hb10 
    go_upto_region 11 with fail
    generalize (w10'.alloc (.cells #[.bool (decide (za < 0)), .slice A10 (digs W za.natAbs).length c10] 24)) = w10 at *
    generalize w10'.heap.size = g10 at *
    go_upto_region 11 with fail
    obtain ⟨x11a, x11b, x11c, x11d⟩ := (HN10.out.1.x (.head _)).facts
    obtain ⟨x12a, x12b, x12c, x12d⟩ := (HN10.out.1.x (.tail _ (.tail _ (.head _)))).facts
    go_wp2_with fail
    refine (Cmp_zk (HN10.out.1.s (.head _)) (HN10.out.1.s (.tail _ (.tail _ (.head _)))) (ival_digs za) HI_a.out (cmpZ_zero.2 rfl)).mono ?_
    rintro ex w13' ⟨rfl, hb13⟩
    have HN91 : Hid (Env w w13' [⟨g10, (decide (za < 0)), A10, (digs W za.natAbs).length, c10, (digs W za.natAbs)⟩, ⟨w.heap.size + 1, nb, A5, m_b, c5, l_b⟩, ⟨w.heap.size, na, A3, m_a, c3, l_a⟩] ∧ Old w13' [⟨g10, (decide (za < 0)), A10, (digs W za.natAbs).length, c10, (digs W za.natAbs)⟩, ⟨w.heap.size + 1, nb, A5, m_b, c5, l_b⟩, ⟨w.heap.size, na, A3, m_a, c3, l_a⟩]) := Lib.hid ⟨HN10.out.1.below hb13, HN10.out.2.below hb13⟩
    clear hb13 x11a x11b x11c x11d x12a x12b x12c x12d
    obtain ⟨x14a, x14b, x14c, x14d⟩ := (HN91.out.1.x (.tail _ (.tail _ (.head _)))).facts
    obtain ⟨x15a, x15b, x15c, x15d⟩ := (HN91.out.1.x (.tail _ (.head _))).facts
    go_wp2_with fail
    refine (Cmp_zk (HN91.out.1.s (.tail _ (.tail _ (.head _)))) (HN91.out.1.s (.tail _ (.head _))) HI_a.out HI_b.out HCab.out).mono ?_
    rintro ex w16' ⟨rfl, hb16⟩
    go_wp2
    go_ret
    exact ⟨rfl, (HN91.out.1.below hb16).b⟩
end Go.Proofs.Ytggdmhkdmkldoaa

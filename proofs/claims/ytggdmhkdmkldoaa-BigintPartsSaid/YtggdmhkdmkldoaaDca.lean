import Derived.Test.YtggdmhkdmkldoaaCo
namespace Go.Proofs.Ytggdmhkdmkldoaa
open Go.RowKit Hb

set_option maxRecDepth 100000 in
set_option maxHeartbeats 8000000 in
theorem Parts_zero (na nb : Bool) {Aa Ab : Option Addr} {la lb l_a l_b : List Nat} {n_a ca n_b cb m_a m_b : Nat} {w : World} {za zb : Int} (hsa : SlU w w.heap.size Aa n_a ca la) (hsb : SlU w w.heap.size Ab n_b cb lb)
    (HFew_a : Hid (∀ w, SlU w w.heap.size Aa n_a ca la → Calls Try.prog 31 #[.agg #[.bool na, .slice Aa n_a ca], .int .i64 120] w (FewQ w na l_a m_a))) (HFew_b : Hid (∀ w, SlU w w.heap.size Ab n_b cb lb → Calls Try.prog 31 #[.agg #[.bool nb, .slice Ab n_b cb], .int .i64 120] w (FewQ w nb l_b m_b)))
    (HM_a : Hid (l_a.length = m_a ∧ m_a ≤ 120 ∧ Dig W l_a)) (HM_b : Hid (l_b.length = m_b ∧ m_b ≤ 120 ∧ Dig W l_b)) (HI_a : Hid (ival na l_a = za)) (HI_b : Hid (ival nb l_b = zb)) (Ba : za.natAbs < 2 ^ (32 * 120)) (Bb : zb.natAbs < 2 ^ (32 * 120)) (hz : zb = 0) :
    Calls Try.prog 7 #[.agg #[.bool na, .slice Aa n_a ca], .agg #[.bool nb, .slice Ab n_b cb]] w fun e w' => e = .returned (.bool true) ∧ Below w.heap.size w w' := by
  have T_za := Lib.hid (tooLong_lt _ (by decide) Ba)
  have T_zb := Lib.hid (tooLong_lt _ (by decide) Bb)
  have HZ := Lib.hid hz
  have HS0 := Lib.hid (show zb.sign = 0 by rw [hz]; rfl)
  clear Ba Bb hz
  have K0 := Env.box (Env.nil w) (Old.nil w) (neg := na) hsa rfl
  have HN0 := Lib.hid (Env.box K0.1 K0.2 (neg := nb) hsb (g := w.heap.size + 1) (by simp))
  clear K0 hsa hsb
  go_enter Try.func7, Try.ntmps7
  go_wp2_with fail
  refine (awake_any _).mono ?_
  rintro ex w1 ⟨rfl, hb1⟩
  have HN1 : Hid (Env w w1 [⟨w.heap.size + 1, nb, Ab, n_b, cb, lb⟩, ⟨w.heap.size, na, Aa, n_a, ca, la⟩] ∧ Old w1 [⟨w.heap.size + 1, nb, Ab, n_b, cb, lb⟩, ⟨w.heap.size, na, Aa, n_a, ca, la⟩]) := Lib.hid ⟨HN0.out.1.below hb1, HN0.out.2.below hb1⟩
  clear hb1
  go_upto_region 2 with fail
  obtain ⟨x2a, x2b, x2c, x2d⟩ := (HN1.out.1.x (.tail _ (.head _))).facts
  go_wp2_with fail
  refine (HFew_a.out _ (HN1.out.1.s (.tail _ (.head _)))).mono ?_
  rintro ex w3' ⟨A3, c3, rfl, ho3, hb3⟩
  obtain ⟨y3a, y3b, y3c, y3d⟩ := ((HN1.out.1.below hb3).x (.tail _ (.head _))).facts
  have HN3 : Hid (Env w ((w3'.setCell ⟨w.heap.size, 0, none⟩ (.bool na)).setCell ⟨w.heap.size, 1, none⟩ (.slice A3 m_a c3)) [⟨w.heap.size + 1, nb, Ab, n_b, cb, lb⟩, ⟨w.heap.size, na, A3, m_a, c3, l_a⟩] ∧ Old ((w3'.setCell ⟨w.heap.size, 0, none⟩ (.bool na)).setCell ⟨w.heap.size, 1, none⟩ (.slice A3 m_a c3)) [⟨w.heap.size + 1, nb, Ab, n_b, cb, lb⟩, ⟨w.heap.size, na, A3, m_a, c3, l_a⟩]) := Lib.hid (Env.call_set HN1.out.1 HN1.out.2 hb3 ho3 HM_a.out.2.2 HM_a.out.1 1 rfl)
  clear ho3 hb3 x2a x2b x2c x2d
  go_upto_region 3 with fail
  generalize ((w3'.setCell ⟨w.heap.size, 0, none⟩ (.bool na)).setCell ⟨w.heap.size, 1, none⟩ (.slice A3 m_a c3)) = w3 at *
  clear y3a y3b y3c y3d
  go_upto_region 3 with fail
  obtain ⟨x4a, x4b, x4c, x4d⟩ := (HN3.out.1.x (.head _)).facts
  go_wp2_with fail
  refine (HFew_b.out _ (HN3.out.1.s (.head _))).mono ?_
  rintro ex w5' ⟨A5, c5, rfl, ho5, hb5⟩
  obtain ⟨y5a, y5b, y5c, y5d⟩ := ((HN3.out.1.below hb5).x (.head _)).facts
  have HN5 : Hid (Env w ((w5'.setCell ⟨w.heap.size + 1, 0, none⟩ (.bool nb)).setCell ⟨w.heap.size + 1, 1, none⟩ (.slice A5 m_b c5)) [⟨w.heap.size + 1, nb, A5, m_b, c5, l_b⟩, ⟨w.heap.size, na, A3, m_a, c3, l_a⟩] ∧ Old ((w5'.setCell ⟨w.heap.size + 1, 0, none⟩ (.bool nb)).setCell ⟨w.heap.size + 1, 1, none⟩ (.slice A5 m_b c5)) [⟨w.heap.size + 1, nb, A5, m_b, c5, l_b⟩, ⟨w.heap.size, na, A3, m_a, c3, l_a⟩]) := Lib.hid (Env.call_set HN3.out.1 HN3.out.2 hb5 ho5 HM_b.out.2.2 HM_b.out.1 0 rfl)
  clear ho5 hb5 x4a x4b x4c x4d
  go_upto_region 4 with fail
  generalize ((w5'.setCell ⟨w.heap.size + 1, 0, none⟩ (.bool nb)).setCell ⟨w.heap.size + 1, 1, none⟩ (.slice A5 m_b c5)) = w5 at *
  clear y5a y5b y5c y5d
  go_upto_region 4 with fail
  obtain ⟨x6a, x6b, x6c, x6d⟩ := (HN5.out.1.x (.tail _ (.head _))).facts
  obtain ⟨x7a, x7b, x7c, x7d⟩ := (HN5.out.1.x (.head _)).facts
  go_wp2_with fail
  refine (QuoRem_0 (HN5.out.1.s (.tail _ (.head _))) (HN5.out.1.s (.head _)) (Nat.le_trans HM_a.out.2.1 (by decide)) (Nat.le_trans HM_b.out.2.1 (by decide)) HI_a.out HI_b.out HZ.out T_za.out T_zb.out).mono ?_
  rintro ex w8' ⟨rfl, hb8⟩
  have HB8 := ((Below.refl w8'.heap.size w8').alloc (Nat.le_refl _) (.cells #[.bool false, .slice none 0 0] 24)).alloc (by simp) (.cells #[.bool false, .slice none 0 0] 24)
  have HN8 : Hid (Env w ((w8'.alloc (.cells #[.bool false, .slice none 0 0] 24)).alloc (.cells #[.bool false, .slice none 0 0] 24)) [⟨w.heap.size + 1, nb, A5, m_b, c5, l_b⟩, ⟨w.heap.size, na, A3, m_a, c3, l_a⟩] ∧ Old ((w8'.alloc (.cells #[.bool false, .slice none 0 0] 24)).alloc (.cells #[.bool false, .slice none 0 0] 24)) [⟨w.heap.size + 1, nb, A5, m_b, c5, l_b⟩, ⟨w.heap.size, na, A3, m_a, c3, l_a⟩]) := Lib.hid ⟨(HN5.out.1.below hb8).below HB8, (HN5.out.2.below hb8).below HB8⟩
  clear hb8 HB8 x6a x6b x6c x6d x7a x7b x7c x7d
  go_upto_region 5 with fail
  generalize ((w8'.alloc (.cells #[.bool false, .slice none 0 0] 24)).alloc (.cells #[.bool false, .slice none 0 0] 24)) = w8 at *
  go_upto_region 5 with fail
  obtain ⟨x9a, x9b, x9c, x9d⟩ := (HN8.out.1.x (.tail _ (.head _))).facts
  obtain ⟨x10a, x10b, x10c, x10d⟩ := (HN8.out.1.x (.head _)).facts
  go_wp2_with fail
  refine (DivMod_0 (HN8.out.1.s (.tail _ (.head _))) (HN8.out.1.s (.head _)) (Nat.le_trans HM_a.out.2.1 (by decide)) (Nat.le_trans HM_b.out.2.1 (by decide)) HI_a.out HI_b.out HZ.out T_za.out T_zb.out).mono ?_
  rintro ex w11' ⟨rfl, hb11⟩
  have HB11 := ((Below.refl w11'.heap.size w11').alloc (Nat.le_refl _) (.cells #[.bool false, .slice none 0 0] 24)).alloc (by simp) (.cells #[.bool false, .slice none 0 0] 24)
  have HN11 : Hid (Env w ((w11'.alloc (.cells #[.bool false, .slice none 0 0] 24)).alloc (.cells #[.bool false, .slice none 0 0] 24)) [⟨w.heap.size + 1, nb, A5, m_b, c5, l_b⟩, ⟨w.heap.size, na, A3, m_a, c3, l_a⟩] ∧ Old ((w11'.alloc (.cells #[.bool false, .slice none 0 0] 24)).alloc (.cells #[.bool false, .slice none 0 0] 24)) [⟨w.heap.size + 1, nb, A5, m_b, c5, l_b⟩, ⟨w.heap.size, na, A3, m_a, c3, l_a⟩]) := Lib.hid ⟨(HN8.out.1.below hb11).below HB11, (HN8.out.2.below hb11).below HB11⟩
  clear hb11 HB11 x9a x9b x9c x9d x10a x10b x10c x10d
  go_upto_region 6 with fail
  generalize ((w11'.alloc (.cells #[.bool false, .slice none 0 0] 24)).alloc (.cells #[.bool false, .slice none 0 0] 24)) = w11 at *
  go_upto_region 6 with fail
  obtain ⟨x12a, x12b, x12c, x12d⟩ := (HN11.out.1.x (.head _)).facts
  go_wp2_with fail
  refine (Sign_zk (HN11.out.1.s (.head _)) HI_b.out HS0.out).mono ?_
  rintro ex w13' ⟨rfl, hb13⟩
  have HN13 := Lib.hid (HN11.out.1.below hb13)
  clear hb13 x12a x12b x12c x12d
  go_wp2
  go_ret
  exact ⟨rfl, HN13.out.b⟩
end Go.Proofs.Ytggdmhkdmkldoaa

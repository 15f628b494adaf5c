import Derived.Test.YtggdmhkdmkldoaaFz
namespace Go.Proofs.Ytggdmhkdmkldoaa
open Go.RowKit Hb

set_option maxRecDepth 100000 in
set_option maxHeartbeats 8000000 in
theorem Near_low (na nb : Bool) {Aa Ab : Option Addr} {la lb l_a l_b : List Nat} {n_a ca n_b cb m_a m_b m : Nat} {w : World} {za zb : Int} (hsa : SlU w w.heap.size Aa n_a ca la) (hsb : SlU w w.heap.size Ab n_b cb lb)
    (HFew_a : Hid (∀ w, SlU w w.heap.size Aa n_a ca la → Calls Try.prog 31 #[.agg #[.bool na, .slice Aa n_a ca], .int .i64 31] w (FewQ w na l_a m_a))) (HFew_b : Hid (∀ w, SlU w w.heap.size Ab n_b cb lb → Calls Try.prog 31 #[.agg #[.bool nb, .slice Ab n_b cb], .int .i64 31] w (FewQ w nb l_b m_b)))
    (HM_a : Hid (l_a.length = m_a ∧ m_a ≤ 31 ∧ Dig W l_a)) (HM_b : Hid (l_b.length = m_b ∧ m_b ≤ 31 ∧ Dig W l_b)) (HI_a : Hid (ival na l_a = za)) (HI_b : Hid (ival nb l_b = zb)) (Ba : blen za.natAbs ≤ 992) (Bb : blen zb.natAbs ≤ 992) (hm : blen za.natAbs ≤ 53) :
    Calls Try.prog 15 #[.agg #[.bool na, .slice Aa n_a ca], .agg #[.bool nb, .slice Ab n_b cb]] w fun e w' => e = .returned (.bool true) ∧ Below w.heap.size w w' := by
  have t1 := tooLong_blen Ba (by decide)
  have t2 := tooLong_blen Bb (by decide)
  have b3 := nrZ_blen Ba
  have b4 := nrZ_blen Bb
  have t3 := tooLong_blen b3 (by decide)
  have t4 := tooLong_blen b4 (by decide)
  have B5 := nrZ_diff Ba
  have t5 : tooLong (za - nrZ za) = false := tooLong_blen (k := 992 + 2) (blen_le_iff.2 B5) (by decide)
  have e1 := ofZ_tfB t1 (Nat.le_trans Ba (by decide))
  have e2 := ofZ_tfB t2 (Nat.le_trans Bb (by decide))
  have e3 := tfB_again (x := za) (Nat.le_trans Ba (by decide))
  have e4 := nrZ_order za zb
  have x1 := tfB_exp (x := za) t1 (Nat.le_trans Ba (by decide))
  have x2 := tfB_exp (x := zb) t2 (Nat.le_trans Bb (by decide))
  have e5 := nrZ_near_low hm
  obtain ⟨zx, hzx⟩ : ∃ z, nrZ za = z := ⟨_, rfl⟩
  obtain ⟨zy, hzy⟩ : ∃ z, nrZ zb = z := ⟨_, rfl⟩
  rw [hzx] at e1 e3 e4 e5 b3 t3 B5 t5
  rw [hzy] at e2 e4 b4 t4
  obtain ⟨fa, hfa⟩ : ∃ z, tfB za = z := ⟨_, rfl⟩
  obtain ⟨fb, hfb⟩ : ∃ z, tfB zb = z := ⟨_, rfl⟩
  rw [hfa] at e1 e3 x1
  rw [hfb] at e2 x2
  obtain ⟨zd, hzd⟩ : ∃ z, za - zx = z := ⟨_, rfl⟩
  rw [hzd] at e5 t5
  obtain ⟨ud, hud⟩ : ∃ z : Int, (zd.natAbs : Int) = z := ⟨_, rfl⟩
  obtain ⟨z0, hz0⟩ : ∃ z : Int, z = 0 := ⟨_, rfl⟩
  obtain ⟨kd, hkd⟩ : ∃ z : Int, cmpZ ud z0 = z := ⟨_, rfl⟩
  have hkd0 : kd ≤ 0 := by
    rw [← hkd, cmpZ]
    split
    · decide
    · rw [if_neg (by omega)]; decide
  have hkdd : decide (kd ≤ 0) = true := decide_eq_true hkd0
  obtain ⟨ko, hko⟩ : ∃ z : Int, cmpZ zx zy = z := ⟨_, rfl⟩
  obtain ⟨kc, hkc⟩ : ∃ z : Int, cmpZ za zb = z := ⟨_, rfl⟩
  rw [hko, hkc] at e4
  obtain ⟨ba, hba⟩ : ∃ n, blen za.natAbs = n := ⟨_, rfl⟩
  have hba9 : ba ≤ 992 := by omega
  have hb53 : decide ((53 : Int) < (ba : Int)) = false := decide_eq_false (by omega)
  have HF0 := Lib.hid (fun w1 => from_k (o := z0) w1 (by decide) (by decide) hz0)
  have T_z0 := Lib.hid (show tooLong z0 = false by rw [hz0]; exact tooLong_lt 0 (by decide) (by decide))
  have hbaI : (ba : Int) ≤ 992 := by omega
  have hbaJ : (0 : Int) ≤ (ba : Int) := by omega
  have T_za := Lib.hid t1
  have T_zb := Lib.hid t2
  have T_zx := Lib.hid t3
  have T_zy := Lib.hid t4
  have T_zd := Lib.hid t5
  have HNA := Lib.hid Ba
  have HNB := Lib.hid Bb
  have HNX := Lib.hid b3
  have HFA := Lib.hid hfa
  have HFB := Lib.hid hfb
  have HFX := Lib.hid e3
  have HOA := Lib.hid e1
  have HOB := Lib.hid e2
  have HXA := Lib.hid x1
  have HXB := Lib.hid x2
  have HD := Lib.hid hzd
  have HU := Lib.hid hud
  have HKD := Lib.hid hkd
  have HKO := Lib.hid hko
  have HKC := Lib.hid hkc
  have HBA := Lib.hid hba
  have HOR := Lib.hid e4
  clear t1 t2 b3 b4 t3 t4 B5 t5 e1 e2 e3 e4 e5 x1 x2 hzx hzy hfa hfb hzd hud hz0 hkd hkd0 hko hkc hba hba9 Ba Bb hm
  have K0 := Env.box (Env.nil w) (Old.nil w) (neg := na) hsa rfl
  have HN0 := Lib.hid (Env.box K0.1 K0.2 (neg := nb) hsb (g := w.heap.size + 1) (by simp))
  clear K0 hsa hsb
  go_enter Try.func15, Try.ntmps15
  go_wp2_with fail
  refine (awake_any _).mono ?_
  rintro ex w1 ⟨rfl, hb1⟩
  have HN1 : Hid (Env w w1 [⟨w.heap.size + 1, nb, Ab, n_b, cb, lb⟩, ⟨w.heap.size, na, Aa, n_a, ca, la⟩] ∧ Old w1 [⟨w.heap.size + 1, nb, Ab, n_b, cb, lb⟩, ⟨w.heap.size, na, Aa, n_a, ca, la⟩]) := Lib.hid ⟨HN0.out.1.below hb1, HN0.out.2.below hb1⟩
  clear hb1
  go_upto_region 2 with fail
  obtain ⟨x2a, x2b, x2c, x2d⟩ := (HN1.out.1.x (.tail _ (.head _))).facts
  go_wp2_with fail
  refine (HFew_a.out _ (HN1.out.1.s (.tail _ (.head _)))).mono ?_
  rintro ex w3' ⟨A3, c3, rfl, ho3, hb3⟩
  obtain ⟨y3a, y3b, y3c, y3d⟩ := ((HN1.out.1.below hb3).x (.tail _ (.head _))).facts
  have HN3 : Hid (Env w ((w3'.setCell ⟨w.heap.size, 0, none⟩ (.bool na)).setCell ⟨w.heap.size, 1, none⟩ (.slice A3 m_a c3)) [⟨w.heap.size + 1, nb, Ab, n_b, cb, lb⟩, ⟨w.heap.size, na, A3, m_a, c3, l_a⟩] ∧ Old ((w3'.setCell ⟨w.heap.size, 0, none⟩ (.bool na)).setCell ⟨w.heap.size, 1, none⟩ (.slice A3 m_a c3)) [⟨w.heap.size + 1, nb, Ab, n_b, cb, lb⟩, ⟨w.heap.size, na, A3, m_a, c3, l_a⟩]) := Lib.hid (Env.call_set HN1.out.1 HN1.out.2 hb3 ho3 HM_a.out.2.2 HM_a.out.1 1 rfl)
  clear ho3 hb3 x2a x2b x2c x2d
  go_upto_region 3 with fail
  generalize ((w3'.setCell ⟨w.heap.size, 0, none⟩ (.bool na)).setCell ⟨w.heap.size, 1, none⟩ (.slice A3 m_a c3)) = w3 at *
  clear y3a y3b y3c y3d
  go_upto_region 3 with fail
  obtain ⟨x4a, x4b, x4c, x4d⟩ := (HN3.out.1.x (.head _)).facts
  go_wp2_with fail
  refine (HFew_b.out _ (HN3.out.1.s (.head _))).mono ?_
  rintro ex w5' ⟨A5, c5, rfl, ho5, hb5⟩
  obtain ⟨y5a, y5b, y5c, y5d⟩ := ((HN3.out.1.below hb5).x (.head _)).facts
  have HN5 : Hid (Env w ((w5'.setCell ⟨w.heap.size + 1, 0, none⟩ (.bool nb)).setCell ⟨w.heap.size + 1, 1, none⟩ (.slice A5 m_b c5)) [⟨w.heap.size + 1, nb, A5, m_b, c5, l_b⟩, ⟨w.heap.size, na, A3, m_a, c3, l_a⟩] ∧ Old ((w5'.setCell ⟨w.heap.size + 1, 0, none⟩ (.bool nb)).setCell ⟨w.heap.size + 1, 1, none⟩ (.slice A5 m_b c5)) [⟨w.heap.size + 1, nb, A5, m_b, c5, l_b⟩, ⟨w.heap.size, na, A3, m_a, c3, l_a⟩]) := Lib.hid (Env.call_set HN3.out.1 HN3.out.2 hb5 ho5 HM_b.out.2.2 HM_b.out.1 0 rfl)
  clear ho5 hb5 x4a x4b x4c x4d
  go_upto_region 4 with fail
  generalize ((w5'.setCell ⟨w.heap.size + 1, 0, none⟩ (.bool nb)).setCell ⟨w.heap.size + 1, 1, none⟩ (.slice A5 m_b c5)) = w5 at *
  clear y5a y5b y5c y5d
  go_upto_region 4 with fail
  obtain ⟨x6a, x6b, x6c, x6d⟩ := (HN5.out.1.x (.tail _ (.head _))).facts
  go_wp2_with fail
  refine (ToFloat_z (HN5.out.1.s (.tail _ (.head _))) (Nat.le_trans HM_a.out.2.1 (by decide)) HI_a.out HFA.out (Nat.le_trans HNA.out (by decide))).mono ?_
  rintro ex w7' ⟨rfl, hb7⟩
  have HN7 : Hid (Env w w7' [⟨w.heap.size + 1, nb, A5, m_b, c5, l_b⟩, ⟨w.heap.size, na, A3, m_a, c3, l_a⟩] ∧ Old w7' [⟨w.heap.size + 1, nb, A5, m_b, c5, l_b⟩, ⟨w.heap.size, na, A3, m_a, c3, l_a⟩]) := Lib.hid ⟨HN5.out.1.below hb7, HN5.out.2.below hb7⟩
  clear hb7 x6a x6b x6c x6d
  go_upto_region 5 with fail
  go_upto_region 5 with fail
  obtain ⟨x8a, x8b, x8c, x8d⟩ := (HN7.out.1.x (.head _)).facts
  go_wp2_with fail
  refine (ToFloat_z (HN7.out.1.s (.head _)) (Nat.le_trans HM_b.out.2.1 (by decide)) HI_b.out HFB.out (Nat.le_trans HNB.out (by decide))).mono ?_
  rintro ex w9' ⟨rfl, hb9⟩
  have HN9 : Hid (Env w w9' [⟨w.heap.size + 1, nb, A5, m_b, c5, l_b⟩, ⟨w.heap.size, na, A3, m_a, c3, l_a⟩] ∧ Old w9' [⟨w.heap.size + 1, nb, A5, m_b, c5, l_b⟩, ⟨w.heap.size, na, A3, m_a, c3, l_a⟩]) := Lib.hid ⟨HN7.out.1.below hb9, HN7.out.2.below hb9⟩
  clear hb9 x8a x8b x8c x8d
  go_upto_region 6 with fail
  go_upto_region 6 with fail
  go_wp2_with fail
  refine (OfFloat_z _ HXA.out HOA.out).mono ?_
  rintro ex w10' ⟨v, rfl, ⟨A10, c10, rfl, ho10⟩, hb10⟩
  have HN10 : Hid (Env w (w10'.alloc (.cells #[.bool (decide (zx < 0)), .slice A10 (digs W zx.natAbs).length c10] 24)) [⟨w10'.heap.size, (decide (zx < 0)), A10, (digs W zx.natAbs).length, c10, (digs W zx.natAbs)⟩, ⟨w.heap.size + 1, nb, A5, m_b, c5, l_b⟩, ⟨w.heap.size, na, A3, m_a, c3, l_a⟩] ∧ Old (w10'.alloc (.cells #[.bool (decide (zx < 0)), .slice A10 (digs W zx.natAbs).length c10] 24)) [⟨w10'.heap.size, (decide (zx < 0)), A10, (digs W zx.natAbs).length, c10, (digs W zx.natAbs)⟩, ⟨w.heap.size + 1, nb, A5, m_b, c5, l_b⟩, ⟨w.heap.size, na, A3, m_a, c3, l_a⟩]) := Lib.hid (Env.call_push HN9.out.1 HN9.out.2 hb10 ho10 (dig_digs (by decide) _) rfl)
  clear ho10 hb10 
  go_upto_region 7 with fail
  generalize (w10'.alloc (.cells #[.bool (decide (zx < 0)), .slice A10 (digs W zx.natAbs).length c10] 24)) = w10 at *
  generalize w10'.heap.size = g10 at *
  go_upto_region 7 with fail
  go_wp2_with fail
  refine (OfFloat_z _ HXB.out HOB.out).mono ?_
  rintro ex w11' ⟨v, rfl, ⟨A11, c11, rfl, ho11⟩, hb11⟩
  have HN11 : Hid (Env w (w11'.alloc (.cells #[.bool (decide (zy < 0)), .slice A11 (digs W zy.natAbs).length c11] 24)) [⟨w11'.heap.size, (decide (zy < 0)), A11, (digs W zy.natAbs).length, c11, (digs W zy.natAbs)⟩, ⟨g10, (decide (zx < 0)), A10, (digs W zx.natAbs).length, c10, (digs W zx.natAbs)⟩, ⟨w.heap.size + 1, nb, A5, m_b, c5, l_b⟩, ⟨w.heap.size, na, A3, m_a, c3, l_a⟩] ∧ Old (w11'.alloc (.cells #[.bool (decide (zy < 0)), .slice A11 (digs W zy.natAbs).length c11] 24)) [⟨w11'.heap.size, (decide (zy < 0)), A11, (digs W zy.natAbs).length, c11, (digs W zy.natAbs)⟩, ⟨g10, (decide (zx < 0)), A10, (digs W zx.natAbs).length, c10, (digs W zx.natAbs)⟩, ⟨w.heap.size + 1, nb, A5, m_b, c5, l_b⟩, ⟨w.heap.size, na, A3, m_a, c3, l_a⟩]) := Lib.hid (Env.call_push HN10.out.1 HN10.out.2 hb11 ho11 (dig_digs (by decide) _) rfl)
  clear ho11 hb11 
  go_upto_region 8 with fail
  generalize (w11'.alloc (.cells #[.bool (decide (zy < 0)), .slice A11 (digs W zy.natAbs).length c11] 24)) = w11 at *
  generalize w11'.heap.size = g11 at *
  go_upto_region 8 with fail
  obtain ⟨x12a, x12b, x12c, x12d⟩ := (HN11.out.1.x (.tail _ (.head _))).facts
  go_wp2_with fail
  refine (ToFloat_z (HN11.out.1.s (.tail _ (.head _))) (Nat.le_trans (not_too_len T_zx.out) (by decide)) (ival_digs zx) HFX.out (Nat.le_trans HNX.out (by decide))).mono ?_
  rintro ex w13' ⟨rfl, hb13⟩
  have HN13 : Hid (Env w w13' [⟨g11, (decide (zy < 0)), A11, (digs W zy.natAbs).length, c11, (digs W zy.natAbs)⟩, ⟨g10, (decide (zx < 0)), A10, (digs W zx.natAbs).length, c10, (digs W zx.natAbs)⟩, ⟨w.heap.size + 1, nb, A5, m_b, c5, l_b⟩, ⟨w.heap.size, na, A3, m_a, c3, l_a⟩] ∧ Old w13' [⟨g11, (decide (zy < 0)), A11, (digs W zy.natAbs).length, c11, (digs W zy.natAbs)⟩, ⟨g10, (decide (zx < 0)), A10, (digs W zx.natAbs).length, c10, (digs W zx.natAbs)⟩, ⟨w.heap.size + 1, nb, A5, m_b, c5, l_b⟩, ⟨w.heap.size, na, A3, m_a, c3, l_a⟩]) := Lib.hid ⟨HN11.out.1.below hb13, HN11.out.2.below hb13⟩
  clear hb13 x12a x12b x12c x12d
  go_upto_region 9 with fail
  go_upto_region 9 with fail
  obtain ⟨x14a, x14b, x14c, x14d⟩ := (HN13.out.1.x (.tail _ (.tail _ (.tail _ (.head _))))).facts
  obtain ⟨x15a, x15b, x15c, x15d⟩ := (HN13.out.1.x (.tail _ (.head _))).facts
  go_wp2_with fail
  refine (Sub_z (HN13.out.1.s (.tail _ (.tail _ (.tail _ (.head _))))) (HN13.out.1.s (.tail _ (.head _))) (Nat.le_trans HM_a.out.2.1 (by decide)) (Nat.le_trans (not_too_len T_zx.out) (by decide)) HI_a.out (ival_digs zx) HD.out T_za.out T_zx.out T_zd.out).mono ?_
  rintro ex w16' ⟨v, rfl, ⟨A16, c16, rfl, ho16⟩, hb16⟩
  have HN16 : Hid (Env w (w16'.alloc (.cells #[.bool (decide (zd < 0)), .slice A16 (digs W zd.natAbs).length c16] 24)) [⟨w16'.heap.size, (decide (zd < 0)), A16, (digs W zd.natAbs).length, c16, (digs W zd.natAbs)⟩, ⟨g11, (decide (zy < 0)), A11, (digs W zy.natAbs).length, c11, (digs W zy.natAbs)⟩, ⟨g10, (decide (zx < 0)), A10, (digs W zx.natAbs).length, c10, (digs W zx.natAbs)⟩, ⟨w.heap.size + 1, nb, A5, m_b, c5, l_b⟩, ⟨w.heap.size, na, A3, m_a, c3, l_a⟩] ∧ Old (w16'.alloc (.cells #[.bool (decide (zd < 0)), .slice A16 (digs W zd.natAbs).length c16] 24)) [⟨w16'.heap.size, (decide (zd < 0)), A16, (digs W zd.natAbs).length, c16, (digs W zd.natAbs)⟩, ⟨g11, (decide (zy < 0)), A11, (digs W zy.natAbs).length, c11, (digs W zy.natAbs)⟩, ⟨g10, (decide (zx < 0)), A10, (digs W zx.natAbs).length, c10, (digs W zx.natAbs)⟩, ⟨w.heap.size + 1, nb, A5, m_b, c5, l_b⟩, ⟨w.heap.size, na, A3, m_a, c3, l_a⟩]) := Lib.hid (Env.call_push HN13.out.1 HN13.out.2 hb16 ho16 (dig_digs (by decide) _) rfl)
  clear ho16 hb16 x14a x14b x14c x14d x15a x15b x15c x15d
  go_upto_region 10 with fail
  generalize (w16'.alloc (.cells #[.bool (decide (zd < 0)), .slice A16 (digs W zd.natAbs).length c16] 24)) = w16 at *
  generalize w16'.heap.size = g16 at *
  go_upto_region 10 with fail
  go_wp2_with fail
  refine (HF0.out _).mono ?_
  rintro ex w17' ⟨v, rfl, ⟨A17, c17, rfl, ho17⟩, hb17⟩
  have HN17 : Hid (Env w (w17'.alloc (.cells #[.bool (decide (z0 < 0)), .slice A17 (digs W z0.natAbs).length c17] 24)) [⟨w17'.heap.size, (decide (z0 < 0)), A17, (digs W z0.natAbs).length, c17, (digs W z0.natAbs)⟩, ⟨g16, (decide (zd < 0)), A16, (digs W zd.natAbs).length, c16, (digs W zd.natAbs)⟩, ⟨g11, (decide (zy < 0)), A11, (digs W zy.natAbs).length, c11, (digs W zy.natAbs)⟩, ⟨g10, (decide (zx < 0)), A10, (digs W zx.natAbs).length, c10, (digs W zx.natAbs)⟩, ⟨w.heap.size + 1, nb, A5, m_b, c5, l_b⟩, ⟨w.heap.size, na, A3, m_a, c3, l_a⟩] ∧ Old (w17'.alloc (.cells #[.bool (decide (z0 < 0)), .slice A17 (digs W z0.natAbs).length c17] 24)) [⟨w17'.heap.size, (decide (z0 < 0)), A17, (digs W z0.natAbs).length, c17, (digs W z0.natAbs)⟩, ⟨g16, (decide (zd < 0)), A16, (digs W zd.natAbs).length, c16, (digs W zd.natAbs)⟩, ⟨g11, (decide (zy < 0)), A11, (digs W zy.natAbs).length, c11, (digs W zy.natAbs)⟩, ⟨g10, (decide (zx < 0)), A10, (digs W zx.natAbs).length, c10, (digs W zx.natAbs)⟩, ⟨w.heap.size + 1, nb, A5, m_b, c5, l_b⟩, ⟨w.heap.size, na, A3, m_a, c3, l_a⟩]) := Lib.hid (Env.call_push HN16.out.1 HN16.out.2 hb17 ho17 (dig_digs (by decide) _) rfl)
  clear ho17 hb17 
  go_upto_region 11 with fail
  generalize (w17'.alloc (.cells #[.bool (decide (z0 < 0)), .slice A17 (digs W z0.natAbs).length c17] 24)) = w17 at *
  generalize w17'.heap.size = g17 at *
  go_upto_region 11 with fail
  obtain ⟨x18a, x18b, x18c, x18d⟩ := (HN17.out.1.x (.tail _ (.tail _ (.tail _ (.tail _ (.tail _ (.head _))))))).facts
  go_wp2_with fail
  refine (Bits_z (HN17.out.1.s (.tail _ (.tail _ (.tail _ (.tail _ (.tail _ (.head _))))))) (Nat.le_trans HM_a.out.2.1 (by decide)) HI_a.out HBA.out).mono ?_
  rintro ex w19' ⟨rfl, hb19⟩
  have HN19 : Hid (Env w w19' [⟨g17, (decide (z0 < 0)), A17, (digs W z0.natAbs).length, c17, (digs W z0.natAbs)⟩, ⟨g16, (decide (zd < 0)), A16, (digs W zd.natAbs).length, c16, (digs W zd.natAbs)⟩, ⟨g11, (decide (zy < 0)), A11, (digs W zy.natAbs).length, c11, (digs W zy.natAbs)⟩, ⟨g10, (decide (zx < 0)), A10, (digs W zx.natAbs).length, c10, (digs W zx.natAbs)⟩, ⟨w.heap.size + 1, nb, A5, m_b, c5, l_b⟩, ⟨w.heap.size, na, A3, m_a, c3, l_a⟩] ∧ Old w19' [⟨g17, (decide (z0 < 0)), A17, (digs W z0.natAbs).length, c17, (digs W z0.natAbs)⟩, ⟨g16, (decide (zd < 0)), A16, (digs W zd.natAbs).length, c16, (digs W zd.natAbs)⟩, ⟨g11, (decide (zy < 0)), A11, (digs W zy.natAbs).length, c11, (digs W zy.natAbs)⟩, ⟨g10, (decide (zx < 0)), A10, (digs W zx.natAbs).length, c10, (digs W zx.natAbs)⟩, ⟨w.heap.size + 1, nb, A5, m_b, c5, l_b⟩, ⟨w.heap.size, na, A3, m_a, c3, l_a⟩]) := Lib.hid ⟨HN17.out.1.below hb19, HN17.out.2.below hb19⟩
  clear hb19 x18a x18b x18c x18d
  go_upto_region 14 with fail
  go_upto_region 14 with fail
  obtain ⟨x20a, x20b, x20c, x20d⟩ := (HN19.out.1.x (.tail _ (.tail _ (.tail _ (.tail _ (.tail _ (.head _))))))).facts
  obtain ⟨x21a, x21b, x21c, x21d⟩ := (HN19.out.1.x (.tail _ (.tail _ (.tail _ (.tail _ (.head _)))))).facts
  go_wp2_with fail
  refine (Cmp_zk (HN19.out.1.s (.tail _ (.tail _ (.tail _ (.tail _ (.tail _ (.head _))))))) (HN19.out.1.s (.tail _ (.tail _ (.tail _ (.tail _ (.head _)))))) HI_a.out HI_b.out HKC.out).mono ?_
  rintro ex w22' ⟨rfl, hb22⟩
  have HN22 : Hid (Env w w22' [⟨g17, (decide (z0 < 0)), A17, (digs W z0.natAbs).length, c17, (digs W z0.natAbs)⟩, ⟨g16, (decide (zd < 0)), A16, (digs W zd.natAbs).length, c16, (digs W zd.natAbs)⟩, ⟨g11, (decide (zy < 0)), A11, (digs W zy.natAbs).length, c11, (digs W zy.natAbs)⟩, ⟨g10, (decide (zx < 0)), A10, (digs W zx.natAbs).length, c10, (digs W zx.natAbs)⟩, ⟨w.heap.size + 1, nb, A5, m_b, c5, l_b⟩, ⟨w.heap.size, na, A3, m_a, c3, l_a⟩] ∧ Old w22' [⟨g17, (decide (z0 < 0)), A17, (digs W z0.natAbs).length, c17, (digs W z0.natAbs)⟩, ⟨g16, (decide (zd < 0)), A16, (digs W zd.natAbs).length, c16, (digs W zd.natAbs)⟩, ⟨g11, (decide (zy < 0)), A11, (digs W zy.natAbs).length, c11, (digs W zy.natAbs)⟩, ⟨g10, (decide (zx < 0)), A10, (digs W zx.natAbs).length, c10, (digs W zx.natAbs)⟩, ⟨w.heap.size + 1, nb, A5, m_b, c5, l_b⟩, ⟨w.heap.size, na, A3, m_a, c3, l_a⟩]) := Lib.hid ⟨HN19.out.1.below hb22, HN19.out.2.below hb22⟩
  clear hb22 x20a x20b x20c x20d x21a x21b x21c x21d
  go_upto_region 15 with fail
  go_upto_region 15 with fail
  obtain ⟨x23a, x23b, x23c, x23d⟩ := (HN22.out.1.x (.tail _ (.tail _ (.tail _ (.head _))))).facts
  obtain ⟨x24a, x24b, x24c, x24d⟩ := (HN22.out.1.x (.tail _ (.tail _ (.head _)))).facts
  go_wp2_with fail
  refine (Cmp_zk (HN22.out.1.s (.tail _ (.tail _ (.tail _ (.head _))))) (HN22.out.1.s (.tail _ (.tail _ (.head _)))) (ival_digs zx) (ival_digs zy) HKO.out).mono ?_
  rintro ex w25' ⟨rfl, hb25⟩
  have HN25 : Hid (Env w w25' [⟨g17, (decide (z0 < 0)), A17, (digs W z0.natAbs).length, c17, (digs W z0.natAbs)⟩, ⟨g16, (decide (zd < 0)), A16, (digs W zd.natAbs).length, c16, (digs W zd.natAbs)⟩, ⟨g11, (decide (zy < 0)), A11, (digs W zy.natAbs).length, c11, (digs W zy.natAbs)⟩, ⟨g10, (decide (zx < 0)), A10, (digs W zx.natAbs).length, c10, (digs W zx.natAbs)⟩, ⟨w.heap.size + 1, nb, A5, m_b, c5, l_b⟩, ⟨w.heap.size, na, A3, m_a, c3, l_a⟩] ∧ Old w25' [⟨g17, (decide (z0 < 0)), A17, (digs W z0.natAbs).length, c17, (digs W z0.natAbs)⟩, ⟨g16, (decide (zd < 0)), A16, (digs W zd.natAbs).length, c16, (digs W zd.natAbs)⟩, ⟨g11, (decide (zy < 0)), A11, (digs W zy.natAbs).length, c11, (digs W zy.natAbs)⟩, ⟨g10, (decide (zx < 0)), A10, (digs W zx.natAbs).length, c10, (digs W zx.natAbs)⟩, ⟨w.heap.size + 1, nb, A5, m_b, c5, l_b⟩, ⟨w.heap.size, na, A3, m_a, c3, l_a⟩]) := Lib.hid ⟨HN22.out.1.below hb25, HN22.out.2.below hb25⟩
  clear hb25 x23a x23b x23c x23d x24a x24b x24c x24d
  go_upto_region 16 with fail
  obtain ⟨p1, hp1⟩ : ∃ p : Bool, (ko == kc) = p := ⟨_, rfl⟩
  cases p1
  · skip
    have hko0 : (ko == 0) = true := beq_iff_eq.2 (HOR.out.resolve_left (beq_eq_false_iff_ne.1 hp1))
    go_upto_region 16 with fail
    obtain ⟨x26a, x26b, x26c, x26d⟩ := (HN25.out.1.x (.tail _ (.head _))).facts
    obtain ⟨x27a, x27b, x27c, x27d⟩ := (HN25.out.1.x (.head _)).facts
    have hS28 := Lib.hid (fun w' (hb : Below w25'.heap.size w25' w') => (And.intro (And.intro ((HN25.out.1.below hb).x (.tail _ (.head _))).facts.1 ((HN25.out.1.below hb).x (.tail _ (.head _))).facts.2.1) (And.intro ((HN25.out.1.below hb).x (.head _)).facts.1 ((HN25.out.1.below hb).x (.head _)).facts.2.1)))
    have hV28_0 : Hid (∀ w', Below w25'.heap.size w25' w' → SlU w' w'.heap.size A16 (digs W zd.natAbs).length c16 (digs W zd.natAbs)) := Lib.hid (fun w' hb => SlU.to (HN25.out.1.s (.tail _ (.head _))) hb (Nat.le_refl _))
    have hV28_1 : Hid (∀ w', Below w25'.heap.size w25' w' → SlU w' w'.heap.size A17 (digs W z0.natAbs).length c17 (digs W z0.natAbs)) := Lib.hid (fun w' hb => SlU.to (HN25.out.1.s (.head _)) hb (Nat.le_refl _))
    go_region_held3 (fun w' => (w'.cell? ⟨g16, 0, none⟩ = some (.bool (decide (zd < 0))) ∧ w'.cell? ⟨g16, 1, none⟩ = some (.slice A16 (digs W zd.natAbs).length c16)) ∧ (w'.cell? ⟨g17, 0, none⟩ = some (.bool (decide (z0 < 0))) ∧ w'.cell? ⟨g17, 1, none⟩ = some (.slice A17 (digs W z0.natAbs).length c17)))
      (first | (go_keep; done) | exact hS28.out _ k28_1 | exact hS28.out _ k28_0 | exact hS28.out _ (Below.refl w25'.heap.size w25').drew)
      (first
        | (go_at_call 49; (with_reducible refine (abs_any (hV28_0.out _ (Below.refl w25'.heap.size w25').drew) (Nat.le_trans (not_too_len T_zd.out) (by decide)) (ival_digs zd) HU.out).mono ?_); rintro e y28_0 ⟨v, rfl, ⟨A28_0, c28_0, rfl, ho28_0⟩, hb28_0⟩; have k28_0 : Below w25'.heap.size w25' y28_0 := ((Below.refl w25'.heap.size w25').drew).trans (hb28_0.mono (Nat.le_refl _)))
        | (go_at_call 32; (with_reducible refine (Cmp_zk (Own.int ho28_0) (hV28_1.out _ k28_0) (ival_digs ud) (ival_digs z0) HKD.out).mono ?_); rintro e y28_1 ⟨rfl, hb28_1⟩; have k28_1 : Below w25'.heap.size w25' y28_1 := (k28_0).trans (hb28_1.mono (k28_0).size)))
    have HN28 : Hid (Env w y28_1 [⟨g17, (decide (z0 < 0)), A17, (digs W z0.natAbs).length, c17, (digs W z0.natAbs)⟩, ⟨g16, (decide (zd < 0)), A16, (digs W zd.natAbs).length, c16, (digs W zd.natAbs)⟩, ⟨g11, (decide (zy < 0)), A11, (digs W zy.natAbs).length, c11, (digs W zy.natAbs)⟩, ⟨g10, (decide (zx < 0)), A10, (digs W zx.natAbs).length, c10, (digs W zx.natAbs)⟩, ⟨w.heap.size + 1, nb, A5, m_b, c5, l_b⟩, ⟨w.heap.size, na, A3, m_a, c3, l_a⟩] ∧ Old y28_1 [⟨g17, (decide (z0 < 0)), A17, (digs W z0.natAbs).length, c17, (digs W z0.natAbs)⟩, ⟨g16, (decide (zd < 0)), A16, (digs W zd.natAbs).length, c16, (digs W zd.natAbs)⟩, ⟨g11, (decide (zy < 0)), A11, (digs W zy.natAbs).length, c11, (digs W zy.natAbs)⟩, ⟨g10, (decide (zx < 0)), A10, (digs W zx.natAbs).length, c10, (digs W zx.natAbs)⟩, ⟨w.heap.size + 1, nb, A5, m_b, c5, l_b⟩, ⟨w.heap.size, na, A3, m_a, c3, l_a⟩]) := Lib.hid ⟨HN25.out.1.below k28_1, HN25.out.2.below k28_1⟩
    clear hb28_0 k28_0 ho28_0 hb28_1 k28_1 x26a x26b x26c x26d x27a x27b x27c x27d
    go_wp2
    go_ret
    exact ⟨rfl, HN28.out.1.b⟩
  · skip
    go_upto_region 16 with fail
    obtain ⟨x36a, x36b, x36c, x36d⟩ := (HN25.out.1.x (.tail _ (.head _))).facts
    obtain ⟨x37a, x37b, x37c, x37d⟩ := (HN25.out.1.x (.head _)).facts
    have hS38 := Lib.hid (fun w' (hb : Below w25'.heap.size w25' w') => (And.intro (And.intro ((HN25.out.1.below hb).x (.tail _ (.head _))).facts.1 ((HN25.out.1.below hb).x (.tail _ (.head _))).facts.2.1) (And.intro ((HN25.out.1.below hb).x (.head _)).facts.1 ((HN25.out.1.below hb).x (.head _)).facts.2.1)))
    have hV38_0 : Hid (∀ w', Below w25'.heap.size w25' w' → SlU w' w'.heap.size A16 (digs W zd.natAbs).length c16 (digs W zd.natAbs)) := Lib.hid (fun w' hb => SlU.to (HN25.out.1.s (.tail _ (.head _))) hb (Nat.le_refl _))
    have hV38_1 : Hid (∀ w', Below w25'.heap.size w25' w' → SlU w' w'.heap.size A17 (digs W z0.natAbs).length c17 (digs W z0.natAbs)) := Lib.hid (fun w' hb => SlU.to (HN25.out.1.s (.head _)) hb (Nat.le_refl _))
    refine wp_region_wait (fun w' => (w'.cell? ⟨g16, 0, none⟩ = some (.bool (decide (zd < 0))) ∧ w'.cell? ⟨g16, 1, none⟩ = some (.slice A16 (digs W zd.natAbs).length c16)) ∧ (w'.cell? ⟨g17, 0, none⟩ = some (.bool (decide (z0 < 0))) ∧ w'.cell? ⟨g17, 1, none⟩ = some (.slice A17 (digs W z0.natAbs).length c17))) 42 (by kernel_rfl) ?_
    change wpAnyW _ _ _ _ _ _ _ _ _ w25'.drew
    refine wpAnyW_take 42 (i := 0) (v := .bool true) rfl (by kernel_rfl) (by kernel_rfl) (by kernel_rfl) (by kernel_rfl) (fun _ _ _ h => h) (Or.inl ⟨by kernel_rfl, fun w5 hSw => by go_simp⟩) (hS38.out _ (Below.refl w25'.heap.size w25').drew) ?_
    refine wpAnyW_take 42 (i := 1) (v := .bool true) rfl (by kernel_rfl) (by kernel_rfl) (by kernel_rfl) (by kernel_rfl) (fun _ _ _ h => h) (Or.inl ⟨by kernel_rfl, fun w5 hSw => by go_simp⟩) (hS38.out _ (Below.refl w25'.heap.size w25').drew) ?_
    refine wpAnyW_take 42 (i := 2) (v := .int .i64 0) rfl (by kernel_rfl) (by kernel_rfl) (by kernel_rfl) (by kernel_rfl) (fun _ _ _ h => h) (Or.inl ⟨by kernel_rfl, fun w5 hSw => by go_simp⟩) (hS38.out _ (Below.refl w25'.heap.size w25').drew) ?_
    refine wpAnyW_take 42 (i := 3) (v := .bool true) rfl (by kernel_rfl) (by kernel_rfl) (by kernel_rfl) (by kernel_rfl) (fun _ _ _ h => h) (Or.inl ⟨by kernel_rfl, fun w5 hSw => by go_simp⟩) (hS38.out _ (Below.refl w25'.heap.size w25').drew) ?_
    refine wpAnyW_take 42 (i := 4) (v := .bool true) rfl (by kernel_rfl) (by kernel_rfl) (by kernel_rfl) (by kernel_rfl) (fun _ _ _ h => h) (Or.inl ⟨by kernel_rfl, fun w5 hSw => by go_simp⟩) (hS38.out _ (Below.refl w25'.heap.size w25').drew) ?_
    refine wpAnyW_take 42 (i := 5) (v := .bool true) rfl (by kernel_rfl) (by kernel_rfl) (by kernel_rfl) (by kernel_rfl) (fun _ _ _ h => h) (Or.inl ⟨by kernel_rfl, fun w5 hSw => by go_simp⟩) (hS38.out _ (Below.refl w25'.heap.size w25').drew) ?_
    refine wpAnyW_take 42 (i := 6) (v := .int .i64 0) rfl (by kernel_rfl) (by kernel_rfl) (by kernel_rfl) (by kernel_rfl) (fun _ _ _ h => h) (Or.inl ⟨by kernel_rfl, fun w5 hSw => by go_simp⟩) (hS38.out _ (Below.refl w25'.heap.size w25').drew) ?_
    refine wpAnyW_take 42 (i := 7) (v := .bool true) rfl (by kernel_rfl) (by kernel_rfl) (by kernel_rfl) (by kernel_rfl) (fun _ _ _ h => h) (Or.inl ⟨by kernel_rfl, fun w5 hSw => by go_simp⟩) (hS38.out _ (Below.refl w25'.heap.size w25').drew) ?_
    refine wpAnyW_take 42 (i := 8) (v := .bool true) rfl (by kernel_rfl) (by kernel_rfl) (by kernel_rfl) (by kernel_rfl) (fun _ _ _ h => h) (Or.inl ⟨by kernel_rfl, fun w5 hSw => by go_simp⟩) (hS38.out _ (Below.refl w25'.heap.size w25').drew) ?_
    refine wpAnyW_take 42 (i := 9) (v := .bool true) rfl (by kernel_rfl) (by kernel_rfl) (by kernel_rfl) (by kernel_rfl) (fun _ _ _ h => h) (Or.inl ⟨by kernel_rfl, fun w5 hSw => by go_simp⟩) (hS38.out _ (Below.refl w25'.heap.size w25').drew) ?_
    refine wpAnyW_take 42 (i := 10) (v := .int .i64 0) rfl (by kernel_rfl) (by kernel_rfl) (by kernel_rfl) (by kernel_rfl) (fun _ _ _ h => h) (Or.inl ⟨by kernel_rfl, fun w5 hSw => by go_simp⟩) (hS38.out _ (Below.refl w25'.heap.size w25').drew) ?_
    refine wpAnyW_take 42 (i := 11) (v := .bool true) rfl (by kernel_rfl) (by kernel_rfl) (by kernel_rfl) (by kernel_rfl) (fun _ _ _ h => h) (Or.inl ⟨by kernel_rfl, fun w5 hSw => by go_simp⟩) (hS38.out _ (Below.refl w25'.heap.size w25').drew) ?_
    refine wpAnyW_take 42 (i := 12) (v := .bool true) rfl (by kernel_rfl) (by kernel_rfl) (by kernel_rfl) (by kernel_rfl) (fun _ _ _ h => h) (Or.inl ⟨by kernel_rfl, fun w5 hSw => by go_simp⟩) (hS38.out _ (Below.refl w25'.heap.size w25').drew) ?_
    refine wpAnyW_take 42 (i := 13) (v := .bool true) rfl (by kernel_rfl) (by kernel_rfl) (by kernel_rfl) (by kernel_rfl) (fun _ _ _ h => h) (Or.inl ⟨by kernel_rfl, fun w5 hSw => by go_simp⟩) (hS38.out _ (Below.refl w25'.heap.size w25').drew) ?_
    refine wpAnyW_take 42 (i := 14) (v := .int .i64 0) rfl (by kernel_rfl) (by kernel_rfl) (by kernel_rfl) (by kernel_rfl) (fun _ _ _ h => h) (Or.inl ⟨by kernel_rfl, fun w5 hSw => by go_simp⟩) (hS38.out _ (Below.refl w25'.heap.size w25').drew) ?_
    refine wpAnyW_take 42 (i := 15) (v := .bool true) rfl (by kernel_rfl) (by kernel_rfl) (by kernel_rfl) (by kernel_rfl) (fun _ _ _ h => h) (Or.inl ⟨by kernel_rfl, fun w5 hSw => by go_simp⟩) (hS38.out _ (Below.refl w25'.heap.size w25').drew) ?_
    refine wpAnyW_take 42 (i := 16) (v := .bool true) rfl (by kernel_rfl) (by kernel_rfl) (by kernel_rfl) (by kernel_rfl) (fun _ _ _ h => h) (Or.inl ⟨by kernel_rfl, fun w5 hSw => by go_simp⟩) (hS38.out _ (Below.refl w25'.heap.size w25').drew) ?_
    refine wpAnyW_take 42 (i := 17) (v := .bool true) rfl (by kernel_rfl) (by kernel_rfl) (by kernel_rfl) (by kernel_rfl) (fun _ _ _ h => h) (Or.inl ⟨by kernel_rfl, fun w5 hSw => by go_simp⟩) (hS38.out _ (Below.refl w25'.heap.size w25').drew) ?_
    refine wpAnyW_take 42 (i := 18) (v := .int .i64 0) rfl (by kernel_rfl) (by kernel_rfl) (by kernel_rfl) (by kernel_rfl) (fun _ _ _ h => h) (Or.inl ⟨by kernel_rfl, fun w5 hSw => by go_simp⟩) (hS38.out _ (Below.refl w25'.heap.size w25').drew) ?_
    refine wpAnyW_take 42 (i := 19) (v := .bool true) rfl (by kernel_rfl) (by kernel_rfl) (by kernel_rfl) (by kernel_rfl) (fun _ _ _ h => h) (Or.inl ⟨by kernel_rfl, fun w5 hSw => by go_simp⟩) (hS38.out _ (Below.refl w25'.heap.size w25').drew) ?_
    refine wpAnyW_take 42 (i := 20) (v := .bool true) rfl (by kernel_rfl) (by kernel_rfl) (by kernel_rfl) (by kernel_rfl) (fun _ _ _ h => h) (Or.inl ⟨by kernel_rfl, fun w5 hSw => by go_simp⟩) (hS38.out _ (Below.refl w25'.heap.size w25').drew) ?_
    refine wpAnyW_take 42 (i := 21) (v := .bool true) rfl (by kernel_rfl) (by kernel_rfl) (by kernel_rfl) (by kernel_rfl) (fun _ _ _ h => h) (Or.inl ⟨by kernel_rfl, fun w5 hSw => by go_simp⟩) (hS38.out _ (Below.refl w25'.heap.size w25').drew) ?_
    refine wpAnyW_take 42 (i := 22) (v := .int .u64 (fa : Int)) rfl (by kernel_rfl) (by kernel_rfl) (by kernel_rfl) (by kernel_rfl) (fun _ _ _ h => h) (Or.inl ⟨by kernel_rfl, fun w5 hSw => by go_simp⟩) (hS38.out _ (Below.refl w25'.heap.size w25').drew) ?_
    refine wpAnyW_take 42 (i := 23) (v := .int .u64 (fa : Int)) rfl (by kernel_rfl) (by kernel_rfl) (by kernel_rfl) (by kernel_rfl) (fun _ _ _ h => h) (Or.inl ⟨by kernel_rfl, fun w5 hSw => by go_simp⟩) (hS38.out _ (Below.refl w25'.heap.size w25').drew) ?_
    refine wpAnyW_take 42 (i := 24) (v := .bool true) rfl (by kernel_rfl) (by kernel_rfl) (by kernel_rfl) (by kernel_rfl) (fun _ _ _ h => h) (Or.inl ⟨by kernel_rfl, fun w5 hSw => by go_simp⟩) (hS38.out _ (Below.refl w25'.heap.size w25').drew) ?_
    refine wpAnyW_take 42 (i := 25) (v := .bool true) rfl (by kernel_rfl) (by kernel_rfl) (by kernel_rfl) (by kernel_rfl) (fun _ _ _ h => h) (Or.inl ⟨by kernel_rfl, fun w5 hSw => by go_simp⟩) (hS38.out _ (Below.refl w25'.heap.size w25').drew) ?_
    refine wpAnyW_take 42 (i := 26) (v := .bool true) rfl (by kernel_rfl) (by kernel_rfl) (by kernel_rfl) (by kernel_rfl) (fun _ _ _ h => h) (Or.inl ⟨by kernel_rfl, fun w5 hSw => by go_simp⟩) (hS38.out _ (Below.refl w25'.heap.size w25').drew) ?_
    refine wpAnyW_take 42 (i := 27) (v := .agg #[.bool (decide (zd < 0)), .slice A16 (digs W zd.natAbs).length c16]) rfl (by kernel_rfl) (by kernel_rfl) (by kernel_rfl) (by kernel_rfl) (fun _ _ _ h => h) (Or.inl ⟨by kernel_rfl, fun w5 hSw => by go_simp⟩) (hS38.out _ (Below.refl w25'.heap.size w25').drew) ?_
    refine wpAnyW_take 42 (i := 29) (v := .agg #[.bool (decide (z0 < 0)), .slice A17 (digs W z0.natAbs).length c17]) rfl (by kernel_rfl) (by kernel_rfl) (by kernel_rfl) (by kernel_rfl) (fun _ _ _ h => h) (Or.inl ⟨by kernel_rfl, fun w5 hSw => by go_simp⟩) (hS38.out _ (Below.refl w25'.heap.size w25').drew) ?_
    refine wpAnyW_one (i := 28) (by kernel_rfl) rfl (fun K hK => ?_)
    go_simp
    (with_reducible refine (abs_any (hV38_0.out _ (Below.refl w25'.heap.size w25').drew) (Nat.le_trans (not_too_len T_zd.out) (by decide)) (ival_digs zd) HU.out).mono ?_)
    rintro e y38_0 ⟨v, rfl, ⟨A38_0, c38_0, rfl, ho38_0⟩, hb38_0⟩
    have k38_0 : Below w25'.heap.size w25' y38_0 := ((Below.refl w25'.heap.size w25').drew).trans (hb38_0.mono (Nat.le_refl _))
    refine hK.out _ _ (fun _ => hS38.out _ k38_0) ?_
    refine wpAnyW_one (i := 30) (by kernel_rfl) rfl (fun K hK => ?_)
    go_simp
    (with_reducible refine (Cmp_zk (Own.int ho38_0) (hV38_1.out _ k38_0) (ival_digs ud) (ival_digs z0) HKD.out).mono ?_)
    rintro e y38_1 ⟨rfl, hb38_1⟩
    have k38_1 : Below w25'.heap.size w25' y38_1 := (k38_0).trans (hb38_1.mono (k38_0).size)
    refine hK.out _ _ (fun _ => hS38.out _ k38_1) ?_
    refine wpAnyW_take 42 (i := 31) (v := .bool true) rfl (by kernel_rfl) (by kernel_rfl) (by kernel_rfl) (by kernel_rfl) (fun _ _ _ h => h) (Or.inl ⟨by kernel_rfl, fun w5 hSw => by go_simp⟩) (hS38.out _ k38_1) ?_
    refine wpAnyW_take 42 (i := 32) (v := .bool true) rfl (by kernel_rfl) (by kernel_rfl) (by kernel_rfl) (by kernel_rfl) (fun _ _ _ h => h) (Or.inl ⟨by kernel_rfl, fun w5 hSw => by go_simp⟩) (hS38.out _ k38_1) ?_
    refine wpAnyW_take 42 (i := 33) (v := .bool true) rfl (by kernel_rfl) (by kernel_rfl) (by kernel_rfl) (by kernel_rfl) (fun _ _ _ h => h) (Or.inl ⟨by kernel_rfl, fun w5 hSw => by go_simp⟩) (hS38.out _ k38_1) ?_
    refine wpAnyW_take 42 (i := 34) (v := .int .i64 ko) rfl (by kernel_rfl) (by kernel_rfl) (by kernel_rfl) (by kernel_rfl) (fun _ _ _ h => h) (Or.inl ⟨by kernel_rfl, fun w5 hSw => by go_simp⟩) (hS38.out _ k38_1) ?_
    refine wpAnyW_take 42 (i := 35) (v := .int .i64 kc) rfl (by kernel_rfl) (by kernel_rfl) (by kernel_rfl) (by kernel_rfl) (fun _ _ _ h => h) (Or.inl ⟨by kernel_rfl, fun w5 hSw => by go_simp⟩) (hS38.out _ k38_1) ?_
    refine wpAnyW_take 42 (i := 36) (v := .bool true) rfl (by kernel_rfl) (by kernel_rfl) (by kernel_rfl) (by kernel_rfl) (fun _ _ _ h => h) (Or.inl ⟨by kernel_rfl, fun w5 hSw => by go_simp⟩) (hS38.out _ k38_1) ?_
    refine wpAnyW_take 42 (i := 37) (v := .bool true) rfl (by kernel_rfl) (by kernel_rfl) (by kernel_rfl) (by kernel_rfl) (fun _ _ _ h => h) (Or.inl ⟨by kernel_rfl, fun w5 hSw => by go_simp⟩) (hS38.out _ k38_1) ?_
    refine wpAnyW_take 42 (i := 38) (v := undef) rfl (by kernel_rfl) (by kernel_rfl) (by kernel_rfl) (by kernel_rfl) (fun _ _ _ h => h) (Or.inr ⟨by kernel_rfl, rfl⟩) (hS38.out _ k38_1) ?_
    refine wpAnyW_take 42 (i := 39) (v := undef) rfl (by kernel_rfl) (by kernel_rfl) (by kernel_rfl) (by kernel_rfl) (fun _ _ _ h => h) (Or.inr ⟨by kernel_rfl, rfl⟩) (hS38.out _ k38_1) ?_
    refine wpAnyW_take 42 (i := 40) (v := .bool true) rfl (by kernel_rfl) (by kernel_rfl) (by kernel_rfl) (by kernel_rfl) (fun _ _ _ h => h) (Or.inl ⟨by kernel_rfl, fun w5 hSw => by go_simp⟩) (hS38.out _ k38_1) ?_
    refine wpAnyW_take 42 (i := 41) (v := .bool true) rfl (by kernel_rfl) (by kernel_rfl) (by kernel_rfl) (by kernel_rfl) (fun _ _ _ h => h) (Or.inl ⟨by kernel_rfl, fun w5 hSw => by go_simp⟩) (hS38.out _ k38_1) ?_
    refine wpAnyW_one (i := 42) (by kernel_rfl) rfl (fun K hK => ?_)
    go_simp
    refine hK.out _ _ (fun h => absurd h (by simp)) ?_
    refine wpAnyW_done (by kernel_rfl) ?_ _
    have HN38 : Hid (Env w y38_1 [⟨g17, (decide (z0 < 0)), A17, (digs W z0.natAbs).length, c17, (digs W z0.natAbs)⟩, ⟨g16, (decide (zd < 0)), A16, (digs W zd.natAbs).length, c16, (digs W zd.natAbs)⟩, ⟨g11, (decide (zy < 0)), A11, (digs W zy.natAbs).length, c11, (digs W zy.natAbs)⟩, ⟨g10, (decide (zx < 0)), A10, (digs W zx.natAbs).length, c10, (digs W zx.natAbs)⟩, ⟨w.heap.size + 1, nb, A5, m_b, c5, l_b⟩, ⟨w.heap.size, na, A3, m_a, c3, l_a⟩] ∧ Old y38_1 [⟨g17, (decide (z0 < 0)), A17, (digs W z0.natAbs).length, c17, (digs W z0.natAbs)⟩, ⟨g16, (decide (zd < 0)), A16, (digs W zd.natAbs).length, c16, (digs W zd.natAbs)⟩, ⟨g11, (decide (zy < 0)), A11, (digs W zy.natAbs).length, c11, (digs W zy.natAbs)⟩, ⟨g10, (decide (zx < 0)), A10, (digs W zx.natAbs).length, c10, (digs W zx.natAbs)⟩, ⟨w.heap.size + 1, nb, A5, m_b, c5, l_b⟩, ⟨w.heap.size, na, A3, m_a, c3, l_a⟩]) := Lib.hid ⟨HN25.out.1.below k38_1, HN25.out.2.below k38_1⟩
    clear hb38_0 k38_0 hb38_1 k38_1 x36a x36b x36c x36d x37a x37b x37c x37d
    go_wp2
    go_ret
    exact ⟨rfl, HN38.out.1.b⟩

set_option maxRecDepth 100000 in
set_option maxHeartbeats 8000000 in
theorem Near_high (na nb : Bool) {Aa Ab : Option Addr} {la lb l_a l_b : List Nat} {n_a ca n_b cb m_a m_b m : Nat} {w : World} {za zb : Int} (hsa : SlU w w.heap.size Aa n_a ca la) (hsb : SlU w w.heap.size Ab n_b cb lb)
    (HFew_a : Hid (∀ w, SlU w w.heap.size Aa n_a ca la → Calls Try.prog 31 #[.agg #[.bool na, .slice Aa n_a ca], .int .i64 31] w (FewQ w na l_a m_a))) (HFew_b : Hid (∀ w, SlU w w.heap.size Ab n_b cb lb → Calls Try.prog 31 #[.agg #[.bool nb, .slice Ab n_b cb], .int .i64 31] w (FewQ w nb l_b m_b)))
    (HM_a : Hid (l_a.length = m_a ∧ m_a ≤ 31 ∧ Dig W l_a)) (HM_b : Hid (l_b.length = m_b ∧ m_b ≤ 31 ∧ Dig W l_b)) (HI_a : Hid (ival na l_a = za)) (HI_b : Hid (ival nb l_b = zb)) (Ba : blen za.natAbs ≤ 992) (Bb : blen zb.natAbs ≤ 992) (hm : blen za.natAbs = m + 54) :
    Calls Try.prog 15 #[.agg #[.bool na, .slice Aa n_a ca], .agg #[.bool nb, .slice Ab n_b cb]] w fun e w' => e = .returned (.bool true) ∧ Below w.heap.size w w' := by
  have t1 := tooLong_blen Ba (by decide)
  have t2 := tooLong_blen Bb (by decide)
  have b3 := nrZ_blen Ba
  have b4 := nrZ_blen Bb
  have t3 := tooLong_blen b3 (by decide)
  have t4 := tooLong_blen b4 (by decide)
  have B5 := nrZ_diff Ba
  have t5 : tooLong (za - nrZ za) = false := tooLong_blen (k := 992 + 2) (blen_le_iff.2 B5) (by decide)
  have e1 := ofZ_tfB t1 (Nat.le_trans Ba (by decide))
  have e2 := ofZ_tfB t2 (Nat.le_trans Bb (by decide))
  have e3 := tfB_again (x := za) (Nat.le_trans Ba (by decide))
  have e4 := nrZ_order za zb
  have x1 := tfB_exp (x := za) t1 (Nat.le_trans Ba (by decide))
  have x2 := tfB_exp (x := zb) t2 (Nat.le_trans Bb (by decide))
  have e5 := nrZ_near hm
  have bm : m ≤ 938 := by omega
  have t6 : tooLong ((2 ^ m : Nat) : Int) = false := tooLong_blen (k := 939) (by rw [Int.natAbs_natCast, blen_two_pow]; omega) (by decide)
  obtain ⟨zm, hzm⟩ : ∃ z : Int, ((2 ^ m : Nat) : Int) = z := ⟨_, rfl⟩
  have hzmn : zm.natAbs = 2 ^ m := by rw [← hzm, Int.natAbs_natCast]
  have hzm0 : 0 ≤ zm := by omega
  rw [hzm] at t6
  rw [← hzmn] at e5
  obtain ⟨zx, hzx⟩ : ∃ z, nrZ za = z := ⟨_, rfl⟩
  obtain ⟨zy, hzy⟩ : ∃ z, nrZ zb = z := ⟨_, rfl⟩
  rw [hzx] at e1 e3 e4 e5 b3 t3 B5 t5
  rw [hzy] at e2 e4 b4 t4
  obtain ⟨fa, hfa⟩ : ∃ z, tfB za = z := ⟨_, rfl⟩
  obtain ⟨fb, hfb⟩ : ∃ z, tfB zb = z := ⟨_, rfl⟩
  rw [hfa] at e1 e3 x1
  rw [hfb] at e2 x2
  obtain ⟨zd, hzd⟩ : ∃ z, za - zx = z := ⟨_, rfl⟩
  rw [hzd] at e5 t5
  obtain ⟨ud, hud⟩ : ∃ z : Int, (zd.natAbs : Int) = z := ⟨_, rfl⟩
  obtain ⟨z0, hz0⟩ : ∃ z : Int, z = 0 := ⟨_, rfl⟩
  obtain ⟨kd, hkd⟩ : ∃ z : Int, cmpZ ud zm = z := ⟨_, rfl⟩
  have hkd0 : kd ≤ 0 := by
    rw [← hkd, cmpZ]
    split
    · decide
    · rw [if_neg (by omega)]; decide
  have hkdd : decide (kd ≤ 0) = true := decide_eq_true hkd0
  obtain ⟨ko, hko⟩ : ∃ z : Int, cmpZ zx zy = z := ⟨_, rfl⟩
  obtain ⟨kc, hkc⟩ : ∃ z : Int, cmpZ za zb = z := ⟨_, rfl⟩
  rw [hko, hkc] at e4
  obtain ⟨ba, hba⟩ : ∃ n, blen za.natAbs = n := ⟨_, rfl⟩
  have hba9 : ba ≤ 992 := by omega
  have hb53 : decide ((53 : Int) < (ba : Int)) = true := decide_eq_true (by omega)
  obtain ⟨z1, hz1⟩ : ∃ z : Int, z = 1 := ⟨_, rfl⟩
  have e6 : shZ z1 ((ba : Int) - 54) = zm := by
    rw [show (ba : Int) - 54 = (m : Int) by omega, shZ_up, hz1, Int.one_mul, ← hzm, Int.natCast_pow]; rfl
  have hk54 : -9223372036854775808 ≤ (ba : Int) - 54 := by omega
  have HK54 := Lib.hid hk54
  have E6 := Lib.hid e6
  have T_zm := Lib.hid t6
  have HF1 := Lib.hid (fun w1 => from_k (o := z1) w1 (by decide) (by decide) hz1)
  have T_z1 := Lib.hid (show tooLong z1 = false by rw [hz1]; exact tooLong_lt 1 (by decide) (by decide))
  have hba5 : (54 : Int) ≤ (ba : Int) := by omega
  have HF0 := Lib.hid (fun w1 => from_k (o := z0) w1 (by decide) (by decide) hz0)
  have T_z0 := Lib.hid (show tooLong z0 = false by rw [hz0]; exact tooLong_lt 0 (by decide) (by decide))
  have hbaI : (ba : Int) ≤ 992 := by omega
  have hbaJ : (0 : Int) ≤ (ba : Int) := by omega
  have T_za := Lib.hid t1
  have T_zb := Lib.hid t2
  have T_zx := Lib.hid t3
  have T_zy := Lib.hid t4
  have T_zd := Lib.hid t5
  have HNA := Lib.hid Ba
  have HNB := Lib.hid Bb
  have HNX := Lib.hid b3
  have HFA := Lib.hid hfa
  have HFB := Lib.hid hfb
  have HFX := Lib.hid e3
  have HOA := Lib.hid e1
  have HOB := Lib.hid e2
  have HXA := Lib.hid x1
  have HXB := Lib.hid x2
  have HD := Lib.hid hzd
  have HU := Lib.hid hud
  have HKD := Lib.hid hkd
  have HKO := Lib.hid hko
  have HKC := Lib.hid hkc
  have HBA := Lib.hid hba
  have HOR := Lib.hid e4
  clear t1 t2 b3 b4 t3 t4 B5 t5 e1 e2 e3 e4 e5 x1 x2 hzx hzy hfa hfb hzd hud hz0 hkd hkd0 hko hkc hba hba9 Ba Bb hm t6 bm hzm hzmn hzm0 hz1 e6 hk54
  have K0 := Env.box (Env.nil w) (Old.nil w) (neg := na) hsa rfl
  have HN0 := Lib.hid (Env.box K0.1 K0.2 (neg := nb) hsb (g := w.heap.size + 1) (by simp))
  clear K0 hsa hsb
  go_enter Try.func15, Try.ntmps15
  go_wp2_with fail
  refine (awake_any _).mono ?_
  rintro ex w1 ⟨rfl, hb1⟩
  have HN1 : Hid (Env w w1 [⟨w.heap.size + 1, nb, Ab, n_b, cb, lb⟩, ⟨w.heap.size, na, Aa, n_a, ca, la⟩] ∧ Old w1 [⟨w.heap.size + 1, nb, Ab, n_b, cb, lb⟩, ⟨w.heap.size, na, Aa, n_a, ca, la⟩]) := Lib.hid ⟨HN0.out.1.below hb1, HN0.out.2.below hb1⟩
  clear hb1
  go_upto_region 2 with fail
  obtain ⟨x2a, x2b, x2c, x2d⟩ := (HN1.out.1.x (.tail _ (.head _))).facts
  go_wp2_with fail
  refine (HFew_a.out _ (HN1.out.1.s (.tail _ (.head _)))).mono ?_
  rintro ex w3' ⟨A3, c3, rfl, ho3, hb3⟩
  obtain ⟨y3a, y3b, y3c, y3d⟩ := ((HN1.out.1.below hb3).x (.tail _ (.head _))).facts
  have HN3 : Hid (Env w ((w3'.setCell ⟨w.heap.size, 0, none⟩ (.bool na)).setCell ⟨w.heap.size, 1, none⟩ (.slice A3 m_a c3)) [⟨w.heap.size + 1, nb, Ab, n_b, cb, lb⟩, ⟨w.heap.size, na, A3, m_a, c3, l_a⟩] ∧ Old ((w3'.setCell ⟨w.heap.size, 0, none⟩ (.bool na)).setCell ⟨w.heap.size, 1, none⟩ (.slice A3 m_a c3)) [⟨w.heap.size + 1, nb, Ab, n_b, cb, lb⟩, ⟨w.heap.size, na, A3, m_a, c3, l_a⟩]) := Lib.hid (Env.call_set HN1.out.1 HN1.out.2 hb3 ho3 HM_a.out.2.2 HM_a.out.1 1 rfl)
  clear ho3 hb3 x2a x2b x2c x2d
  go_upto_region 3 with fail
  generalize ((w3'.setCell ⟨w.heap.size, 0, none⟩ (.bool na)).setCell ⟨w.heap.size, 1, none⟩ (.slice A3 m_a c3)) = w3 at *
  clear y3a y3b y3c y3d
  go_upto_region 3 with fail
  obtain ⟨x4a, x4b, x4c, x4d⟩ := (HN3.out.1.x (.head _)).facts
  go_wp2_with fail
  refine (HFew_b.out _ (HN3.out.1.s (.head _))).mono ?_
  rintro ex w5' ⟨A5, c5, rfl, ho5, hb5⟩
  obtain ⟨y5a, y5b, y5c, y5d⟩ := ((HN3.out.1.below hb5).x (.head _)).facts
  have HN5 : Hid (Env w ((w5'.setCell ⟨w.heap.size + 1, 0, none⟩ (.bool nb)).setCell ⟨w.heap.size + 1, 1, none⟩ (.slice A5 m_b c5)) [⟨w.heap.size + 1, nb, A5, m_b, c5, l_b⟩, ⟨w.heap.size, na, A3, m_a, c3, l_a⟩] ∧ Old ((w5'.setCell ⟨w.heap.size + 1, 0, none⟩ (.bool nb)).setCell ⟨w.heap.size + 1, 1, none⟩ (.slice A5 m_b c5)) [⟨w.heap.size + 1, nb, A5, m_b, c5, l_b⟩, ⟨w.heap.size, na, A3, m_a, c3, l_a⟩]) := Lib.hid (Env.call_set HN3.out.1 HN3.out.2 hb5 ho5 HM_b.out.2.2 HM_b.out.1 0 rfl)
  clear ho5 hb5 x4a x4b x4c x4d
  go_upto_region 4 with fail
  generalize ((w5'.setCell ⟨w.heap.size + 1, 0, none⟩ (.bool nb)).setCell ⟨w.heap.size + 1, 1, none⟩ (.slice A5 m_b c5)) = w5 at *
  clear y5a y5b y5c y5d
  go_upto_region 4 with fail
  obtain ⟨x6a, x6b, x6c, x6d⟩ := (HN5.out.1.x (.tail _ (.head _))).facts
  go_wp2_with fail
  refine (ToFloat_z (HN5.out.1.s (.tail _ (.head _))) (Nat.le_trans HM_a.out.2.1 (by decide)) HI_a.out HFA.out (Nat.le_trans HNA.out (by decide))).mono ?_
  rintro ex w7' ⟨rfl, hb7⟩
  have HN7 : Hid (Env w w7' [⟨w.heap.size + 1, nb, A5, m_b, c5, l_b⟩, ⟨w.heap.size, na, A3, m_a, c3, l_a⟩] ∧ Old w7' [⟨w.heap.size + 1, nb, A5, m_b, c5, l_b⟩, ⟨w.heap.size, na, A3, m_a, c3, l_a⟩]) := Lib.hid ⟨HN5.out.1.below hb7, HN5.out.2.below hb7⟩
  clear hb7 x6a x6b x6c x6d
  go_upto_region 5 with fail
  go_upto_region 5 with fail
  obtain ⟨x8a, x8b, x8c, x8d⟩ := (HN7.out.1.x (.head _)).facts
  go_wp2_with fail
  refine (ToFloat_z (HN7.out.1.s (.head _)) (Nat.le_trans HM_b.out.2.1 (by decide)) HI_b.out HFB.out (Nat.le_trans HNB.out (by decide))).mono ?_
  rintro ex w9' ⟨rfl, hb9⟩
  have HN9 : Hid (Env w w9' [⟨w.heap.size + 1, nb, A5, m_b, c5, l_b⟩, ⟨w.heap.size, na, A3, m_a, c3, l_a⟩] ∧ Old w9' [⟨w.heap.size + 1, nb, A5, m_b, c5, l_b⟩, ⟨w.heap.size, na, A3, m_a, c3, l_a⟩]) := Lib.hid ⟨HN7.out.1.below hb9, HN7.out.2.below hb9⟩
  clear hb9 x8a x8b x8c x8d
  go_upto_region 6 with fail
  go_upto_region 6 with fail
  go_wp2_with fail
  refine (OfFloat_z _ HXA.out HOA.out).mono ?_
  rintro ex w10' ⟨v, rfl, ⟨A10, c10, rfl, ho10⟩, hb10⟩
  have HN10 : Hid (Env w (w10'.alloc (.cells #[.bool (decide (zx < 0)), .slice A10 (digs W zx.natAbs).length c10] 24)) [⟨w10'.heap.size, (decide (zx < 0)), A10, (digs W zx.natAbs).length, c10, (digs W zx.natAbs)⟩, ⟨w.heap.size + 1, nb, A5, m_b, c5, l_b⟩, ⟨w.heap.size, na, A3, m_a, c3, l_a⟩] ∧ Old (w10'.alloc (.cells #[.bool (decide (zx < 0)), .slice A10 (digs W zx.natAbs).length c10] 24)) [⟨w10'.heap.size, (decide (zx < 0)), A10, (digs W zx.natAbs).length, c10, (digs W zx.natAbs)⟩, ⟨w.heap.size + 1, nb, A5, m_b, c5, l_b⟩, ⟨w.heap.size, na, A3, m_a, c3, l_a⟩]) := Lib.hid (Env.call_push HN9.out.1 HN9.out.2 hb10 ho10 (dig_digs (by decide) _) rfl)
  clear ho10 hb10 
  go_upto_region 7 with fail
  generalize (w10'.alloc (.cells #[.bool (decide (zx < 0)), .slice A10 (digs W zx.natAbs).length c10] 24)) = w10 at *
  generalize w10'.heap.size = g10 at *
  go_upto_region 7 with fail
  go_wp2_with fail
  refine (OfFloat_z _ HXB.out HOB.out).mono ?_
  rintro ex w11' ⟨v, rfl, ⟨A11, c11, rfl, ho11⟩, hb11⟩
  have HN11 : Hid (Env w (w11'.alloc (.cells #[.bool (decide (zy < 0)), .slice A11 (digs W zy.natAbs).length c11] 24)) [⟨w11'.heap.size, (decide (zy < 0)), A11, (digs W zy.natAbs).length, c11, (digs W zy.natAbs)⟩, ⟨g10, (decide (zx < 0)), A10, (digs W zx.natAbs).length, c10, (digs W zx.natAbs)⟩, ⟨w.heap.size + 1, nb, A5, m_b, c5, l_b⟩, ⟨w.heap.size, na, A3, m_a, c3, l_a⟩] ∧ Old (w11'.alloc (.cells #[.bool (decide (zy < 0)), .slice A11 (digs W zy.natAbs).length c11] 24)) [⟨w11'.heap.size, (decide (zy < 0)), A11, (digs W zy.natAbs).length, c11, (digs W zy.natAbs)⟩, ⟨g10, (decide (zx < 0)), A10, (digs W zx.natAbs).length, c10, (digs W zx.natAbs)⟩, ⟨w.heap.size + 1, nb, A5, m_b, c5, l_b⟩, ⟨w.heap.size, na, A3, m_a, c3, l_a⟩]) := Lib.hid (Env.call_push HN10.out.1 HN10.out.2 hb11 ho11 (dig_digs (by decide) _) rfl)
  clear ho11 hb11 
  go_upto_region 8 with fail
  generalize (w11'.alloc (.cells #[.bool (decide (zy < 0)), .slice A11 (digs W zy.natAbs).length c11] 24)) = w11 at *
  generalize w11'.heap.size = g11 at *
  go_upto_region 8 with fail
  obtain ⟨x12a, x12b, x12c, x12d⟩ := (HN11.out.1.x (.tail _ (.head _))).facts
  go_wp2_with fail
  refine (ToFloat_z (HN11.out.1.s (.tail _ (.head _))) (Nat.le_trans (not_too_len T_zx.out) (by decide)) (ival_digs zx) HFX.out (Nat.le_trans HNX.out (by decide))).mono ?_
  rintro ex w13' ⟨rfl, hb13⟩
  have HN13 : Hid (Env w w13' [⟨g11, (decide (zy < 0)), A11, (digs W zy.natAbs).length, c11, (digs W zy.natAbs)⟩, ⟨g10, (decide (zx < 0)), A10, (digs W zx.natAbs).length, c10, (digs W zx.natAbs)⟩, ⟨w.heap.size + 1, nb, A5, m_b, c5, l_b⟩, ⟨w.heap.size, na, A3, m_a, c3, l_a⟩] ∧ Old w13' [⟨g11, (decide (zy < 0)), A11, (digs W zy.natAbs).length, c11, (digs W zy.natAbs)⟩, ⟨g10, (decide (zx < 0)), A10, (digs W zx.natAbs).length, c10, (digs W zx.natAbs)⟩, ⟨w.heap.size + 1, nb, A5, m_b, c5, l_b⟩, ⟨w.heap.size, na, A3, m_a, c3, l_a⟩]) := Lib.hid ⟨HN11.out.1.below hb13, HN11.out.2.below hb13⟩
  clear hb13 x12a x12b x12c x12d
  go_upto_region 9 with fail
  go_upto_region 9 with fail
  obtain ⟨x14a, x14b, x14c, x14d⟩ := (HN13.out.1.x (.tail _ (.tail _ (.tail _ (.head _))))).facts
  obtain ⟨x15a, x15b, x15c, x15d⟩ := (HN13.out.1.x (.tail _ (.head _))).facts
  go_wp2_with fail
  refine (Sub_z (HN13.out.1.s (.tail _ (.tail _ (.tail _ (.head _))))) (HN13.out.1.s (.tail _ (.head _))) (Nat.le_trans HM_a.out.2.1 (by decide)) (Nat.le_trans (not_too_len T_zx.out) (by decide)) HI_a.out (ival_digs zx) HD.out T_za.out T_zx.out T_zd.out).mono ?_
  rintro ex w16' ⟨v, rfl, ⟨A16, c16, rfl, ho16⟩, hb16⟩
  have HN16 : Hid (Env w (w16'.alloc (.cells #[.bool (decide (zd < 0)), .slice A16 (digs W zd.natAbs).length c16] 24)) [⟨w16'.heap.size, (decide (zd < 0)), A16, (digs W zd.natAbs).length, c16, (digs W zd.natAbs)⟩, ⟨g11, (decide (zy < 0)), A11, (digs W zy.natAbs).length, c11, (digs W zy.natAbs)⟩, ⟨g10, (decide (zx < 0)), A10, (digs W zx.natAbs).length, c10, (digs W zx.natAbs)⟩, ⟨w.heap.size + 1, nb, A5, m_b, c5, l_b⟩, ⟨w.heap.size, na, A3, m_a, c3, l_a⟩] ∧ Old (w16'.alloc (.cells #[.bool (decide (zd < 0)), .slice A16 (digs W zd.natAbs).length c16] 24)) [⟨w16'.heap.size, (decide (zd < 0)), A16, (digs W zd.natAbs).length, c16, (digs W zd.natAbs)⟩, ⟨g11, (decide (zy < 0)), A11, (digs W zy.natAbs).length, c11, (digs W zy.natAbs)⟩, ⟨g10, (decide (zx < 0)), A10, (digs W zx.natAbs).length, c10, (digs W zx.natAbs)⟩, ⟨w.heap.size + 1, nb, A5, m_b, c5, l_b⟩, ⟨w.heap.size, na, A3, m_a, c3, l_a⟩]) := Lib.hid (Env.call_push HN13.out.1 HN13.out.2 hb16 ho16 (dig_digs (by decide) _) rfl)
  clear ho16 hb16 x14a x14b x14c x14d x15a x15b x15c x15d
  go_upto_region 10 with fail
  generalize (w16'.alloc (.cells #[.bool (decide (zd < 0)), .slice A16 (digs W zd.natAbs).length c16] 24)) = w16 at *
  generalize w16'.heap.size = g16 at *
  go_upto_region 10 with fail
  go_wp2_with fail
  refine (HF0.out _).mono ?_
  rintro ex w17' ⟨v, rfl, ⟨A17, c17, rfl, ho17⟩, hb17⟩
  have HN17 : Hid (Env w (w17'.alloc (.cells #[.bool (decide (z0 < 0)), .slice A17 (digs W z0.natAbs).length c17] 24)) [⟨w17'.heap.size, (decide (z0 < 0)), A17, (digs W z0.natAbs).length, c17, (digs W z0.natAbs)⟩, ⟨g16, (decide (zd < 0)), A16, (digs W zd.natAbs).length, c16, (digs W zd.natAbs)⟩, ⟨g11, (decide (zy < 0)), A11, (digs W zy.natAbs).length, c11, (digs W zy.natAbs)⟩, ⟨g10, (decide (zx < 0)), A10, (digs W zx.natAbs).length, c10, (digs W zx.natAbs)⟩, ⟨w.heap.size + 1, nb, A5, m_b, c5, l_b⟩, ⟨w.heap.size, na, A3, m_a, c3, l_a⟩] ∧ Old (w17'.alloc (.cells #[.bool (decide (z0 < 0)), .slice A17 (digs W z0.natAbs).length c17] 24)) [⟨w17'.heap.size, (decide (z0 < 0)), A17, (digs W z0.natAbs).length, c17, (digs W z0.natAbs)⟩, ⟨g16, (decide (zd < 0)), A16, (digs W zd.natAbs).length, c16, (digs W zd.natAbs)⟩, ⟨g11, (decide (zy < 0)), A11, (digs W zy.natAbs).length, c11, (digs W zy.natAbs)⟩, ⟨g10, (decide (zx < 0)), A10, (digs W zx.natAbs).length, c10, (digs W zx.natAbs)⟩, ⟨w.heap.size + 1, nb, A5, m_b, c5, l_b⟩, ⟨w.heap.size, na, A3, m_a, c3, l_a⟩]) := Lib.hid (Env.call_push HN16.out.1 HN16.out.2 hb17 ho17 (dig_digs (by decide) _) rfl)
  clear ho17 hb17 
  go_upto_region 11 with fail
  generalize (w17'.alloc (.cells #[.bool (decide (z0 < 0)), .slice A17 (digs W z0.natAbs).length c17] 24)) = w17 at *
  generalize w17'.heap.size = g17 at *
  go_upto_region 11 with fail
  obtain ⟨x18a, x18b, x18c, x18d⟩ := (HN17.out.1.x (.tail _ (.tail _ (.tail _ (.tail _ (.tail _ (.head _))))))).facts
  go_wp2_with fail
  refine (Bits_z (HN17.out.1.s (.tail _ (.tail _ (.tail _ (.tail _ (.tail _ (.head _))))))) (Nat.le_trans HM_a.out.2.1 (by decide)) HI_a.out HBA.out).mono ?_
  rintro ex w19' ⟨rfl, hb19⟩
  have HN19 : Hid (Env w w19' [⟨g17, (decide (z0 < 0)), A17, (digs W z0.natAbs).length, c17, (digs W z0.natAbs)⟩, ⟨g16, (decide (zd < 0)), A16, (digs W zd.natAbs).length, c16, (digs W zd.natAbs)⟩, ⟨g11, (decide (zy < 0)), A11, (digs W zy.natAbs).length, c11, (digs W zy.natAbs)⟩, ⟨g10, (decide (zx < 0)), A10, (digs W zx.natAbs).length, c10, (digs W zx.natAbs)⟩, ⟨w.heap.size + 1, nb, A5, m_b, c5, l_b⟩, ⟨w.heap.size, na, A3, m_a, c3, l_a⟩] ∧ Old w19' [⟨g17, (decide (z0 < 0)), A17, (digs W z0.natAbs).length, c17, (digs W z0.natAbs)⟩, ⟨g16, (decide (zd < 0)), A16, (digs W zd.natAbs).length, c16, (digs W zd.natAbs)⟩, ⟨g11, (decide (zy < 0)), A11, (digs W zy.natAbs).length, c11, (digs W zy.natAbs)⟩, ⟨g10, (decide (zx < 0)), A10, (digs W zx.natAbs).length, c10, (digs W zx.natAbs)⟩, ⟨w.heap.size + 1, nb, A5, m_b, c5, l_b⟩, ⟨w.heap.size, na, A3, m_a, c3, l_a⟩]) := Lib.hid ⟨HN17.out.1.below hb19, HN17.out.2.below hb19⟩
  clear hb19 x18a x18b x18c x18d
  go_upto_region 13 with fail
  go_upto_region 13 with fail
  go_wp2_with fail
  refine (HF1.out _).mono ?_
  rintro ex w20' ⟨v, rfl, ⟨A20, c20, rfl, ho20⟩, hb20⟩
  have HN20 : Hid (Env w w20' [⟨g17, (decide (z0 < 0)), A17, (digs W z0.natAbs).length, c17, (digs W z0.natAbs)⟩, ⟨g16, (decide (zd < 0)), A16, (digs W zd.natAbs).length, c16, (digs W zd.natAbs)⟩, ⟨g11, (decide (zy < 0)), A11, (digs W zy.natAbs).length, c11, (digs W zy.natAbs)⟩, ⟨g10, (decide (zx < 0)), A10, (digs W zx.natAbs).length, c10, (digs W zx.natAbs)⟩, ⟨w.heap.size + 1, nb, A5, m_b, c5, l_b⟩, ⟨w.heap.size, na, A3, m_a, c3, l_a⟩] ∧ Old w20' [⟨g17, (decide (z0 < 0)), A17, (digs W z0.natAbs).length, c17, (digs W z0.natAbs)⟩, ⟨g16, (decide (zd < 0)), A16, (digs W zd.natAbs).length, c16, (digs W zd.natAbs)⟩, ⟨g11, (decide (zy < 0)), A11, (digs W zy.natAbs).length, c11, (digs W zy.natAbs)⟩, ⟨g10, (decide (zx < 0)), A10, (digs W zx.natAbs).length, c10, (digs W zx.natAbs)⟩, ⟨w.heap.size + 1, nb, A5, m_b, c5, l_b⟩, ⟨w.heap.size, na, A3, m_a, c3, l_a⟩]) := Lib.hid ⟨HN19.out.1.below hb20, HN19.out.2.below hb20⟩
  clear hb20
  go_wp2_with fail
  refine (Shift_z (Own.sl ho20 (dig_digs (by decide) _) rfl) (Nat.le_trans (not_too_len T_z1.out) (by decide)) (ival_digs z1) HK54.out E6.out T_z1.out T_zm.out).mono ?_
  rintro ex w21' ⟨v, rfl, ⟨A21, c21, rfl, ho21⟩, hb21⟩
  obtain ⟨y21a, y21b, y21c, y21d⟩ := ((HN20.out.1.below hb21).x (.head _)).facts
  have HN21 : Hid (Env w ((w21'.setCell ⟨g17, 0, none⟩ (.bool (decide (zm < 0)))).setCell ⟨g17, 1, none⟩ (.slice A21 (digs W zm.natAbs).length c21)) [⟨g17, (decide (zm < 0)), A21, (digs W zm.natAbs).length, c21, (digs W zm.natAbs)⟩, ⟨g16, (decide (zd < 0)), A16, (digs W zd.natAbs).length, c16, (digs W zd.natAbs)⟩, ⟨g11, (decide (zy < 0)), A11, (digs W zy.natAbs).length, c11, (digs W zy.natAbs)⟩, ⟨g10, (decide (zx < 0)), A10, (digs W zx.natAbs).length, c10, (digs W zx.natAbs)⟩, ⟨w.heap.size + 1, nb, A5, m_b, c5, l_b⟩, ⟨w.heap.size, na, A3, m_a, c3, l_a⟩] ∧ Old ((w21'.setCell ⟨g17, 0, none⟩ (.bool (decide (zm < 0)))).setCell ⟨g17, 1, none⟩ (.slice A21 (digs W zm.natAbs).length c21)) [⟨g17, (decide (zm < 0)), A21, (digs W zm.natAbs).length, c21, (digs W zm.natAbs)⟩, ⟨g16, (decide (zd < 0)), A16, (digs W zd.natAbs).length, c16, (digs W zd.natAbs)⟩, ⟨g11, (decide (zy < 0)), A11, (digs W zy.natAbs).length, c11, (digs W zy.natAbs)⟩, ⟨g10, (decide (zx < 0)), A10, (digs W zx.natAbs).length, c10, (digs W zx.natAbs)⟩, ⟨w.heap.size + 1, nb, A5, m_b, c5, l_b⟩, ⟨w.heap.size, na, A3, m_a, c3, l_a⟩]) := Lib.hid (Env.call_set HN20.out.1 HN20.out.2 hb21 ho21 (dig_digs (by decide) _) rfl 0 rfl)
  clear ho21 hb21 ho20
  go_upto_region 14 with fail
  generalize ((w21'.setCell ⟨g17, 0, none⟩ (.bool (decide (zm < 0)))).setCell ⟨g17, 1, none⟩ (.slice A21 (digs W zm.natAbs).length c21)) = w21 at *
  clear y21a y21b y21c y21d
  go_upto_region 14 with fail
  obtain ⟨x22a, x22b, x22c, x22d⟩ := (HN21.out.1.x (.tail _ (.tail _ (.tail _ (.tail _ (.tail _ (.head _))))))).facts
  obtain ⟨x23a, x23b, x23c, x23d⟩ := (HN21.out.1.x (.tail _ (.tail _ (.tail _ (.tail _ (.head _)))))).facts
  go_wp2_with fail
  refine (Cmp_zk (HN21.out.1.s (.tail _ (.tail _ (.tail _ (.tail _ (.tail _ (.head _))))))) (HN21.out.1.s (.tail _ (.tail _ (.tail _ (.tail _ (.head _)))))) HI_a.out HI_b.out HKC.out).mono ?_
  rintro ex w24' ⟨rfl, hb24⟩
  have HN24 : Hid (Env w w24' [⟨g17, (decide (zm < 0)), A21, (digs W zm.natAbs).length, c21, (digs W zm.natAbs)⟩, ⟨g16, (decide (zd < 0)), A16, (digs W zd.natAbs).length, c16, (digs W zd.natAbs)⟩, ⟨g11, (decide (zy < 0)), A11, (digs W zy.natAbs).length, c11, (digs W zy.natAbs)⟩, ⟨g10, (decide (zx < 0)), A10, (digs W zx.natAbs).length, c10, (digs W zx.natAbs)⟩, ⟨w.heap.size + 1, nb, A5, m_b, c5, l_b⟩, ⟨w.heap.size, na, A3, m_a, c3, l_a⟩] ∧ Old w24' [⟨g17, (decide (zm < 0)), A21, (digs W zm.natAbs).length, c21, (digs W zm.natAbs)⟩, ⟨g16, (decide (zd < 0)), A16, (digs W zd.natAbs).length, c16, (digs W zd.natAbs)⟩, ⟨g11, (decide (zy < 0)), A11, (digs W zy.natAbs).length, c11, (digs W zy.natAbs)⟩, ⟨g10, (decide (zx < 0)), A10, (digs W zx.natAbs).length, c10, (digs W zx.natAbs)⟩, ⟨w.heap.size + 1, nb, A5, m_b, c5, l_b⟩, ⟨w.heap.size, na, A3, m_a, c3, l_a⟩]) := Lib.hid ⟨HN21.out.1.below hb24, HN21.out.2.below hb24⟩
  clear hb24 x22a x22b x22c x22d x23a x23b x23c x23d
  go_upto_region 15 with fail
  go_upto_region 15 with fail
  obtain ⟨x25a, x25b, x25c, x25d⟩ := (HN24.out.1.x (.tail _ (.tail _ (.tail _ (.head _))))).facts
  obtain ⟨x26a, x26b, x26c, x26d⟩ := (HN24.out.1.x (.tail _ (.tail _ (.head _)))).facts
  go_wp2_with fail
  refine (Cmp_zk (HN24.out.1.s (.tail _ (.tail _ (.tail _ (.head _))))) (HN24.out.1.s (.tail _ (.tail _ (.head _)))) (ival_digs zx) (ival_digs zy) HKO.out).mono ?_
  rintro ex w27' ⟨rfl, hb27⟩
  have HN27 : Hid (Env w w27' [⟨g17, (decide (zm < 0)), A21, (digs W zm.natAbs).length, c21, (digs W zm.natAbs)⟩, ⟨g16, (decide (zd < 0)), A16, (digs W zd.natAbs).length, c16, (digs W zd.natAbs)⟩, ⟨g11, (decide (zy < 0)), A11, (digs W zy.natAbs).length, c11, (digs W zy.natAbs)⟩, ⟨g10, (decide (zx < 0)), A10, (digs W zx.natAbs).length, c10, (digs W zx.natAbs)⟩, ⟨w.heap.size + 1, nb, A5, m_b, c5, l_b⟩, ⟨w.heap.size, na, A3, m_a, c3, l_a⟩] ∧ Old w27' [⟨g17, (decide (zm < 0)), A21, (digs W zm.natAbs).length, c21, (digs W zm.natAbs)⟩, ⟨g16, (decide (zd < 0)), A16, (digs W zd.natAbs).length, c16, (digs W zd.natAbs)⟩, ⟨g11, (decide (zy < 0)), A11, (digs W zy.natAbs).length, c11, (digs W zy.natAbs)⟩, ⟨g10, (decide (zx < 0)), A10, (digs W zx.natAbs).length, c10, (digs W zx.natAbs)⟩, ⟨w.heap.size + 1, nb, A5, m_b, c5, l_b⟩, ⟨w.heap.size, na, A3, m_a, c3, l_a⟩]) := Lib.hid ⟨HN24.out.1.below hb27, HN24.out.2.below hb27⟩
  clear hb27 x25a x25b x25c x25d x26a x26b x26c x26d
  go_upto_region 16 with fail
  obtain ⟨p1, hp1⟩ : ∃ p : Bool, (ko == kc) = p := ⟨_, rfl⟩
  cases p1
  · skip
    have hko0 : (ko == 0) = true := beq_iff_eq.2 (HOR.out.resolve_left (beq_eq_false_iff_ne.1 hp1))
    go_upto_region 16 with fail
    obtain ⟨x28a, x28b, x28c, x28d⟩ := (HN27.out.1.x (.tail _ (.head _))).facts
    obtain ⟨x29a, x29b, x29c, x29d⟩ := (HN27.out.1.x (.head _)).facts
    have hS30 := Lib.hid (fun w' (hb : Below w27'.heap.size w27' w') => (And.intro (And.intro ((HN27.out.1.below hb).x (.tail _ (.head _))).facts.1 ((HN27.out.1.below hb).x (.tail _ (.head _))).facts.2.1) (And.intro ((HN27.out.1.below hb).x (.head _)).facts.1 ((HN27.out.1.below hb).x (.head _)).facts.2.1)))
    have hV30_0 : Hid (∀ w', Below w27'.heap.size w27' w' → SlU w' w'.heap.size A16 (digs W zd.natAbs).length c16 (digs W zd.natAbs)) := Lib.hid (fun w' hb => SlU.to (HN27.out.1.s (.tail _ (.head _))) hb (Nat.le_refl _))
    have hV30_1 : Hid (∀ w', Below w27'.heap.size w27' w' → SlU w' w'.heap.size A21 (digs W zm.natAbs).length c21 (digs W zm.natAbs)) := Lib.hid (fun w' hb => SlU.to (HN27.out.1.s (.head _)) hb (Nat.le_refl _))
    go_region_held3 (fun w' => (w'.cell? ⟨g16, 0, none⟩ = some (.bool (decide (zd < 0))) ∧ w'.cell? ⟨g16, 1, none⟩ = some (.slice A16 (digs W zd.natAbs).length c16)) ∧ (w'.cell? ⟨g17, 0, none⟩ = some (.bool (decide (zm < 0))) ∧ w'.cell? ⟨g17, 1, none⟩ = some (.slice A21 (digs W zm.natAbs).length c21)))
      (first | (go_keep; done) | exact hS30.out _ k30_1 | exact hS30.out _ k30_0 | exact hS30.out _ (Below.refl w27'.heap.size w27').drew)
      (first
        | (go_at_call 49; (with_reducible refine (abs_any (hV30_0.out _ (Below.refl w27'.heap.size w27').drew) (Nat.le_trans (not_too_len T_zd.out) (by decide)) (ival_digs zd) HU.out).mono ?_); rintro e y30_0 ⟨v, rfl, ⟨A30_0, c30_0, rfl, ho30_0⟩, hb30_0⟩; have k30_0 : Below w27'.heap.size w27' y30_0 := ((Below.refl w27'.heap.size w27').drew).trans (hb30_0.mono (Nat.le_refl _)))
        | (go_at_call 32; (with_reducible refine (Cmp_zk (Own.int ho30_0) (hV30_1.out _ k30_0) (ival_digs ud) (ival_digs zm) HKD.out).mono ?_); rintro e y30_1 ⟨rfl, hb30_1⟩; have k30_1 : Below w27'.heap.size w27' y30_1 := (k30_0).trans (hb30_1.mono (k30_0).size)))
    have HN30 : Hid (Env w y30_1 [⟨g17, (decide (zm < 0)), A21, (digs W zm.natAbs).length, c21, (digs W zm.natAbs)⟩, ⟨g16, (decide (zd < 0)), A16, (digs W zd.natAbs).length, c16, (digs W zd.natAbs)⟩, ⟨g11, (decide (zy < 0)), A11, (digs W zy.natAbs).length, c11, (digs W zy.natAbs)⟩, ⟨g10, (decide (zx < 0)), A10, (digs W zx.natAbs).length, c10, (digs W zx.natAbs)⟩, ⟨w.heap.size + 1, nb, A5, m_b, c5, l_b⟩, ⟨w.heap.size, na, A3, m_a, c3, l_a⟩] ∧ Old y30_1 [⟨g17, (decide (zm < 0)), A21, (digs W zm.natAbs).length, c21, (digs W zm.natAbs)⟩, ⟨g16, (decide (zd < 0)), A16, (digs W zd.natAbs).length, c16, (digs W zd.natAbs)⟩, ⟨g11, (decide (zy < 0)), A11, (digs W zy.natAbs).length, c11, (digs W zy.natAbs)⟩, ⟨g10, (decide (zx < 0)), A10, (digs W zx.natAbs).length, c10, (digs W zx.natAbs)⟩, ⟨w.heap.size + 1, nb, A5, m_b, c5, l_b⟩, ⟨w.heap.size, na, A3, m_a, c3, l_a⟩]) := Lib.hid ⟨HN27.out.1.below k30_1, HN27.out.2.below k30_1⟩
    clear hb30_0 k30_0 ho30_0 hb30_1 k30_1 x28a x28b x28c x28d x29a x29b x29c x29d
    go_wp2
    go_ret
    exact ⟨rfl, HN30.out.1.b⟩
  · skip
    go_upto_region 16 with fail
    obtain ⟨x38a, x38b, x38c, x38d⟩ := (HN27.out.1.x (.tail _ (.head _))).facts
    obtain ⟨x39a, x39b, x39c, x39d⟩ := (HN27.out.1.x (.head _)).facts
    have hS40 := Lib.hid (fun w' (hb : Below w27'.heap.size w27' w') => (And.intro (And.intro ((HN27.out.1.below hb).x (.tail _ (.head _))).facts.1 ((HN27.out.1.below hb).x (.tail _ (.head _))).facts.2.1) (And.intro ((HN27.out.1.below hb).x (.head _)).facts.1 ((HN27.out.1.below hb).x (.head _)).facts.2.1)))
    have hV40_0 : Hid (∀ w', Below w27'.heap.size w27' w' → SlU w' w'.heap.size A16 (digs W zd.natAbs).length c16 (digs W zd.natAbs)) := Lib.hid (fun w' hb => SlU.to (HN27.out.1.s (.tail _ (.head _))) hb (Nat.le_refl _))
    have hV40_1 : Hid (∀ w', Below w27'.heap.size w27' w' → SlU w' w'.heap.size A21 (digs W zm.natAbs).length c21 (digs W zm.natAbs)) := Lib.hid (fun w' hb => SlU.to (HN27.out.1.s (.head _)) hb (Nat.le_refl _))
    refine wp_region_wait (fun w' => (w'.cell? ⟨g16, 0, none⟩ = some (.bool (decide (zd < 0))) ∧ w'.cell? ⟨g16, 1, none⟩ = some (.slice A16 (digs W zd.natAbs).length c16)) ∧ (w'.cell? ⟨g17, 0, none⟩ = some (.bool (decide (zm < 0))) ∧ w'.cell? ⟨g17, 1, none⟩ = some (.slice A21 (digs W zm.natAbs).length c21))) 42 (by kernel_rfl) ?_
    change wpAnyW _ _ _ _ _ _ _ _ _ w27'.drew
    refine wpAnyW_take 42 (i := 0) (v := .bool true) rfl (by kernel_rfl) (by kernel_rfl) (by kernel_rfl) (by kernel_rfl) (fun _ _ _ h => h) (Or.inl ⟨by kernel_rfl, fun w5 hSw => by go_simp⟩) (hS40.out _ (Below.refl w27'.heap.size w27').drew) ?_
    refine wpAnyW_take 42 (i := 1) (v := .bool true) rfl (by kernel_rfl) (by kernel_rfl) (by kernel_rfl) (by kernel_rfl) (fun _ _ _ h => h) (Or.inl ⟨by kernel_rfl, fun w5 hSw => by go_simp⟩) (hS40.out _ (Below.refl w27'.heap.size w27').drew) ?_
    refine wpAnyW_take 42 (i := 2) (v := .int .i64 0) rfl (by kernel_rfl) (by kernel_rfl) (by kernel_rfl) (by kernel_rfl) (fun _ _ _ h => h) (Or.inl ⟨by kernel_rfl, fun w5 hSw => by go_simp⟩) (hS40.out _ (Below.refl w27'.heap.size w27').drew) ?_
    refine wpAnyW_take 42 (i := 3) (v := .bool true) rfl (by kernel_rfl) (by kernel_rfl) (by kernel_rfl) (by kernel_rfl) (fun _ _ _ h => h) (Or.inl ⟨by kernel_rfl, fun w5 hSw => by go_simp⟩) (hS40.out _ (Below.refl w27'.heap.size w27').drew) ?_
    refine wpAnyW_take 42 (i := 4) (v := .bool true) rfl (by kernel_rfl) (by kernel_rfl) (by kernel_rfl) (by kernel_rfl) (fun _ _ _ h => h) (Or.inl ⟨by kernel_rfl, fun w5 hSw => by go_simp⟩) (hS40.out _ (Below.refl w27'.heap.size w27').drew) ?_
    refine wpAnyW_take 42 (i := 5) (v := .bool true) rfl (by kernel_rfl) (by kernel_rfl) (by kernel_rfl) (by kernel_rfl) (fun _ _ _ h => h) (Or.inl ⟨by kernel_rfl, fun w5 hSw => by go_simp⟩) (hS40.out _ (Below.refl w27'.heap.size w27').drew) ?_
    refine wpAnyW_take 42 (i := 6) (v := .int .i64 0) rfl (by kernel_rfl) (by kernel_rfl) (by kernel_rfl) (by kernel_rfl) (fun _ _ _ h => h) (Or.inl ⟨by kernel_rfl, fun w5 hSw => by go_simp⟩) (hS40.out _ (Below.refl w27'.heap.size w27').drew) ?_
    refine wpAnyW_take 42 (i := 7) (v := .bool true) rfl (by kernel_rfl) (by kernel_rfl) (by kernel_rfl) (by kernel_rfl) (fun _ _ _ h => h) (Or.inl ⟨by kernel_rfl, fun w5 hSw => by go_simp⟩) (hS40.out _ (Below.refl w27'.heap.size w27').drew) ?_
    refine wpAnyW_take 42 (i := 8) (v := .bool true) rfl (by kernel_rfl) (by kernel_rfl) (by kernel_rfl) (by kernel_rfl) (fun _ _ _ h => h) (Or.inl ⟨by kernel_rfl, fun w5 hSw => by go_simp⟩) (hS40.out _ (Below.refl w27'.heap.size w27').drew) ?_
    refine wpAnyW_take 42 (i := 9) (v := .bool true) rfl (by kernel_rfl) (by kernel_rfl) (by kernel_rfl) (by kernel_rfl) (fun _ _ _ h => h) (Or.inl ⟨by kernel_rfl, fun w5 hSw => by go_simp⟩) (hS40.out _ (Below.refl w27'.heap.size w27').drew) ?_
    refine wpAnyW_take 42 (i := 10) (v := .int .i64 0) rfl (by kernel_rfl) (by kernel_rfl) (by kernel_rfl) (by kernel_rfl) (fun _ _ _ h => h) (Or.inl ⟨by kernel_rfl, fun w5 hSw => by go_simp⟩) (hS40.out _ (Below.refl w27'.heap.size w27').drew) ?_
    refine wpAnyW_take 42 (i := 11) (v := .bool true) rfl (by kernel_rfl) (by kernel_rfl) (by kernel_rfl) (by kernel_rfl) (fun _ _ _ h => h) (Or.inl ⟨by kernel_rfl, fun w5 hSw => by go_simp⟩) (hS40.out _ (Below.refl w27'.heap.size w27').drew) ?_
    refine wpAnyW_take 42 (i := 12) (v := .bool true) rfl (by kernel_rfl) (by kernel_rfl) (by kernel_rfl) (by kernel_rfl) (fun _ _ _ h => h) (Or.inl ⟨by kernel_rfl, fun w5 hSw => by go_simp⟩) (hS40.out _ (Below.refl w27'.heap.size w27').drew) ?_
    refine wpAnyW_take 42 (i := 13) (v := .bool true) rfl (by kernel_rfl) (by kernel_rfl) (by kernel_rfl) (by kernel_rfl) (fun _ _ _ h => h) (Or.inl ⟨by kernel_rfl, fun w5 hSw => by go_simp⟩) (hS40.out _ (Below.refl w27'.heap.size w27').drew) ?_
    refine wpAnyW_take 42 (i := 14) (v := .int .i64 0) rfl (by kernel_rfl) (by kernel_rfl) (by kernel_rfl) (by kernel_rfl) (fun _ _ _ h => h) (Or.inl ⟨by kernel_rfl, fun w5 hSw => by go_simp⟩) (hS40.out _ (Below.refl w27'.heap.size w27').drew) ?_
    refine wpAnyW_take 42 (i := 15) (v := .bool true) rfl (by kernel_rfl) (by kernel_rfl) (by kernel_rfl) (by kernel_rfl) (fun _ _ _ h => h) (Or.inl ⟨by kernel_rfl, fun w5 hSw => by go_simp⟩) (hS40.out _ (Below.refl w27'.heap.size w27').drew) ?_
    refine wpAnyW_take 42 (i := 16) (v := .bool true) rfl (by kernel_rfl) (by kernel_rfl) (by kernel_rfl) (by kernel_rfl) (fun _ _ _ h => h) (Or.inl ⟨by kernel_rfl, fun w5 hSw => by go_simp⟩) (hS40.out _ (Below.refl w27'.heap.size w27').drew) ?_
    refine wpAnyW_take 42 (i := 17) (v := .bool true) rfl (by kernel_rfl) (by kernel_rfl) (by kernel_rfl) (by kernel_rfl) (fun _ _ _ h => h) (Or.inl ⟨by kernel_rfl, fun w5 hSw => by go_simp⟩) (hS40.out _ (Below.refl w27'.heap.size w27').drew) ?_
    refine wpAnyW_take 42 (i := 18) (v := .int .i64 0) rfl (by kernel_rfl) (by kernel_rfl) (by kernel_rfl) (by kernel_rfl) (fun _ _ _ h => h) (Or.inl ⟨by kernel_rfl, fun w5 hSw => by go_simp⟩) (hS40.out _ (Below.refl w27'.heap.size w27').drew) ?_
    refine wpAnyW_take 42 (i := 19) (v := .bool true) rfl (by kernel_rfl) (by kernel_rfl) (by kernel_rfl) (by kernel_rfl) (fun _ _ _ h => h) (Or.inl ⟨by kernel_rfl, fun w5 hSw => by go_simp⟩) (hS40.out _ (Below.refl w27'.heap.size w27').drew) ?_
    refine wpAnyW_take 42 (i := 20) (v := .bool true) rfl (by kernel_rfl) (by kernel_rfl) (by kernel_rfl) (by kernel_rfl) (fun _ _ _ h => h) (Or.inl ⟨by kernel_rfl, fun w5 hSw => by go_simp⟩) (hS40.out _ (Below.refl w27'.heap.size w27').drew) ?_
    refine wpAnyW_take 42 (i := 21) (v := .bool true) rfl (by kernel_rfl) (by kernel_rfl) (by kernel_rfl) (by kernel_rfl) (fun _ _ _ h => h) (Or.inl ⟨by kernel_rfl, fun w5 hSw => by go_simp⟩) (hS40.out _ (Below.refl w27'.heap.size w27').drew) ?_
    refine wpAnyW_take 42 (i := 22) (v := .int .u64 (fa : Int)) rfl (by kernel_rfl) (by kernel_rfl) (by kernel_rfl) (by kernel_rfl) (fun _ _ _ h => h) (Or.inl ⟨by kernel_rfl, fun w5 hSw => by go_simp⟩) (hS40.out _ (Below.refl w27'.heap.size w27').drew) ?_
    refine wpAnyW_take 42 (i := 23) (v := .int .u64 (fa : Int)) rfl (by kernel_rfl) (by kernel_rfl) (by kernel_rfl) (by kernel_rfl) (fun _ _ _ h => h) (Or.inl ⟨by kernel_rfl, fun w5 hSw => by go_simp⟩) (hS40.out _ (Below.refl w27'.heap.size w27').drew) ?_
    refine wpAnyW_take 42 (i := 24) (v := .bool true) rfl (by kernel_rfl) (by kernel_rfl) (by kernel_rfl) (by kernel_rfl) (fun _ _ _ h => h) (Or.inl ⟨by kernel_rfl, fun w5 hSw => by go_simp⟩) (hS40.out _ (Below.refl w27'.heap.size w27').drew) ?_
    refine wpAnyW_take 42 (i := 25) (v := .bool true) rfl (by kernel_rfl) (by kernel_rfl) (by kernel_rfl) (by kernel_rfl) (fun _ _ _ h => h) (Or.inl ⟨by kernel_rfl, fun w5 hSw => by go_simp⟩) (hS40.out _ (Below.refl w27'.heap.size w27').drew) ?_
    refine wpAnyW_take 42 (i := 26) (v := .bool true) rfl (by kernel_rfl) (by kernel_rfl) (by kernel_rfl) (by kernel_rfl) (fun _ _ _ h => h) (Or.inl ⟨by kernel_rfl, fun w5 hSw => by go_simp⟩) (hS40.out _ (Below.refl w27'.heap.size w27').drew) ?_
    refine wpAnyW_take 42 (i := 27) (v := .agg #[.bool (decide (zd < 0)), .slice A16 (digs W zd.natAbs).length c16]) rfl (by kernel_rfl) (by kernel_rfl) (by kernel_rfl) (by kernel_rfl) (fun _ _ _ h => h) (Or.inl ⟨by kernel_rfl, fun w5 hSw => by go_simp⟩) (hS40.out _ (Below.refl w27'.heap.size w27').drew) ?_
    refine wpAnyW_take 42 (i := 29) (v := .agg #[.bool (decide (zm < 0)), .slice A21 (digs W zm.natAbs).length c21]) rfl (by kernel_rfl) (by kernel_rfl) (by kernel_rfl) (by kernel_rfl) (fun _ _ _ h => h) (Or.inl ⟨by kernel_rfl, fun w5 hSw => by go_simp⟩) (hS40.out _ (Below.refl w27'.heap.size w27').drew) ?_
    refine wpAnyW_one (i := 28) (by kernel_rfl) rfl (fun K hK => ?_)
    go_simp
    (with_reducible refine (abs_any (hV40_0.out _ (Below.refl w27'.heap.size w27').drew) (Nat.le_trans (not_too_len T_zd.out) (by decide)) (ival_digs zd) HU.out).mono ?_)
    rintro e y40_0 ⟨v, rfl, ⟨A40_0, c40_0, rfl, ho40_0⟩, hb40_0⟩
    have k40_0 : Below w27'.heap.size w27' y40_0 := ((Below.refl w27'.heap.size w27').drew).trans (hb40_0.mono (Nat.le_refl _))
    refine hK.out _ _ (fun _ => hS40.out _ k40_0) ?_
    refine wpAnyW_one (i := 30) (by kernel_rfl) rfl (fun K hK => ?_)
    go_simp
    (with_reducible refine (Cmp_zk (Own.int ho40_0) (hV40_1.out _ k40_0) (ival_digs ud) (ival_digs zm) HKD.out).mono ?_)
    rintro e y40_1 ⟨rfl, hb40_1⟩
    have k40_1 : Below w27'.heap.size w27' y40_1 := (k40_0).trans (hb40_1.mono (k40_0).size)
    refine hK.out _ _ (fun _ => hS40.out _ k40_1) ?_
    refine wpAnyW_take 42 (i := 31) (v := .bool true) rfl (by kernel_rfl) (by kernel_rfl) (by kernel_rfl) (by kernel_rfl) (fun _ _ _ h => h) (Or.inl ⟨by kernel_rfl, fun w5 hSw => by go_simp⟩) (hS40.out _ k40_1) ?_
    refine wpAnyW_take 42 (i := 32) (v := .bool true) rfl (by kernel_rfl) (by kernel_rfl) (by kernel_rfl) (by kernel_rfl) (fun _ _ _ h => h) (Or.inl ⟨by kernel_rfl, fun w5 hSw => by go_simp⟩) (hS40.out _ k40_1) ?_
    refine wpAnyW_take 42 (i := 33) (v := .bool true) rfl (by kernel_rfl) (by kernel_rfl) (by kernel_rfl) (by kernel_rfl) (fun _ _ _ h => h) (Or.inl ⟨by kernel_rfl, fun w5 hSw => by go_simp⟩) (hS40.out _ k40_1) ?_
    refine wpAnyW_take 42 (i := 34) (v := .int .i64 ko) rfl (by kernel_rfl) (by kernel_rfl) (by kernel_rfl) (by kernel_rfl) (fun _ _ _ h => h) (Or.inl ⟨by kernel_rfl, fun w5 hSw => by go_simp⟩) (hS40.out _ k40_1) ?_
    refine wpAnyW_take 42 (i := 35) (v := .int .i64 kc) rfl (by kernel_rfl) (by kernel_rfl) (by kernel_rfl) (by kernel_rfl) (fun _ _ _ h => h) (Or.inl ⟨by kernel_rfl, fun w5 hSw => by go_simp⟩) (hS40.out _ k40_1) ?_
    refine wpAnyW_take 42 (i := 36) (v := .bool true) rfl (by kernel_rfl) (by kernel_rfl) (by kernel_rfl) (by kernel_rfl) (fun _ _ _ h => h) (Or.inl ⟨by kernel_rfl, fun w5 hSw => by go_simp⟩) (hS40.out _ k40_1) ?_
    refine wpAnyW_take 42 (i := 37) (v := .bool true) rfl (by kernel_rfl) (by kernel_rfl) (by kernel_rfl) (by kernel_rfl) (fun _ _ _ h => h) (Or.inl ⟨by kernel_rfl, fun w5 hSw => by go_simp⟩) (hS40.out _ k40_1) ?_
    refine wpAnyW_take 42 (i := 38) (v := undef) rfl (by kernel_rfl) (by kernel_rfl) (by kernel_rfl) (by kernel_rfl) (fun _ _ _ h => h) (Or.inr ⟨by kernel_rfl, rfl⟩) (hS40.out _ k40_1) ?_
    refine wpAnyW_take 42 (i := 39) (v := undef) rfl (by kernel_rfl) (by kernel_rfl) (by kernel_rfl) (by kernel_rfl) (fun _ _ _ h => h) (Or.inr ⟨by kernel_rfl, rfl⟩) (hS40.out _ k40_1) ?_
    refine wpAnyW_take 42 (i := 40) (v := .bool true) rfl (by kernel_rfl) (by kernel_rfl) (by kernel_rfl) (by kernel_rfl) (fun _ _ _ h => h) (Or.inl ⟨by kernel_rfl, fun w5 hSw => by go_simp⟩) (hS40.out _ k40_1) ?_
    refine wpAnyW_take 42 (i := 41) (v := .bool true) rfl (by kernel_rfl) (by kernel_rfl) (by kernel_rfl) (by kernel_rfl) (fun _ _ _ h => h) (Or.inl ⟨by kernel_rfl, fun w5 hSw => by go_simp⟩) (hS40.out _ k40_1) ?_
    refine wpAnyW_one (i := 42) (by kernel_rfl) rfl (fun K hK => ?_)
    go_simp
    refine hK.out _ _ (fun h => absurd h (by simp)) ?_
    refine wpAnyW_done (by kernel_rfl) ?_ _
    have HN40 : Hid (Env w y40_1 [⟨g17, (decide (zm < 0)), A21, (digs W zm.natAbs).length, c21, (digs W zm.natAbs)⟩, ⟨g16, (decide (zd < 0)), A16, (digs W zd.natAbs).length, c16, (digs W zd.natAbs)⟩, ⟨g11, (decide (zy < 0)), A11, (digs W zy.natAbs).length, c11, (digs W zy.natAbs)⟩, ⟨g10, (decide (zx < 0)), A10, (digs W zx.natAbs).length, c10, (digs W zx.natAbs)⟩, ⟨w.heap.size + 1, nb, A5, m_b, c5, l_b⟩, ⟨w.heap.size, na, A3, m_a, c3, l_a⟩] ∧ Old y40_1 [⟨g17, (decide (zm < 0)), A21, (digs W zm.natAbs).length, c21, (digs W zm.natAbs)⟩, ⟨g16, (decide (zd < 0)), A16, (digs W zd.natAbs).length, c16, (digs W zd.natAbs)⟩, ⟨g11, (decide (zy < 0)), A11, (digs W zy.natAbs).length, c11, (digs W zy.natAbs)⟩, ⟨g10, (decide (zx < 0)), A10, (digs W zx.natAbs).length, c10, (digs W zx.natAbs)⟩, ⟨w.heap.size + 1, nb, A5, m_b, c5, l_b⟩, ⟨w.heap.size, na, A3, m_a, c3, l_a⟩]) := Lib.hid ⟨HN27.out.1.below k40_1, HN27.out.2.below k40_1⟩
    clear hb40_0 k40_0 hb40_1 k40_1 x38a x38b x38c x38d x39a x39b x39c x39d
    go_wp2
    go_ret
    exact ⟨rfl, HN40.out.1.b⟩

theorem Near_walk (na nb : Bool) {Aa Ab : Option Addr} {la lb : List Nat} {n_a ca n_b cb : Nat} {w : World} (hsa : SlU w w.heap.size Aa n_a ca la) (hsb : SlU w w.heap.size Ab n_b cb lb) (hAa : Aa = none → ca = 0) (hAb : Ab = none → cb = 0) :
    Calls Try.prog 15 #[.agg #[.bool na, .slice Aa n_a ca], .agg #[.bool nb, .slice Ab n_b cb]] w fun e w' => e = .returned (.bool true) ∧ Below w.heap.size w w' := by
  obtain ⟨l_a, m_a, hl_a, hm_a, hd_a, hf_a⟩ := few_q (neg := na) 31 (by decide) hAa hsa
  obtain ⟨l_b, m_b, hl_b, hm_b, hd_b, hf_b⟩ := few_q (neg := nb) 31 (by decide) hAb hsb
  have Ba := blen_le_iff.2 (few_bnd (neg := na) (k := 31) hd_a hl_a hm_a)
  have Bb := blen_le_iff.2 (few_bnd (neg := nb) (k := 31) hd_b hl_b hm_b)
  by_cases hc : blen (ival na l_a).natAbs ≤ 53
  · exact Near_low (m := 0) na nb hsa hsb hf_a hf_b ⟨hl_a, hm_a, hd_a⟩ ⟨hl_b, hm_b, hd_b⟩ (Lib.hid rfl) (Lib.hid rfl) Ba Bb hc
  · exact Near_high (m := blen (ival na l_a).natAbs - 54) na nb hsa hsb hf_a hf_b ⟨hl_a, hm_a, hd_a⟩ ⟨hl_b, hm_b, hd_b⟩ (Lib.hid rfl) (Lib.hid rfl) Ba Bb (by omega)
end Go.Proofs.Ytggdmhkdmkldoaa

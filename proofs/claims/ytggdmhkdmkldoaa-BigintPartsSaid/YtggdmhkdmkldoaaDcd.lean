import Derived.Test.YtggdmhkdmkldoaaCo
namespace Go.Proofs.Ytggdmhkdmkldoaa
open Go.RowKit Hb

set_option maxRecDepth 100000 in
set_option maxHeartbeats 8000000 in
theorem Parts_d (na nb : Bool) {Aa Ab : Option Addr} {la lb l_a l_b : List Nat} {n_a ca n_b cb m_a m_b : Nat} {w : World} {za zb : Int} (hsa : SlU w w.heap.size Aa n_a ca la) (hsb : SlU w w.heap.size Ab n_b cb lb)
    (HFew_a : Hid (∀ w, SlU w w.heap.size Aa n_a ca la → Calls Try.prog 31 #[.agg #[.bool na, .slice Aa n_a ca], .int .i64 120] w (FewQ w na l_a m_a))) (HFew_b : Hid (∀ w, SlU w w.heap.size Ab n_b cb lb → Calls Try.prog 31 #[.agg #[.bool nb, .slice Ab n_b cb], .int .i64 120] w (FewQ w nb l_b m_b)))
    (HM_a : Hid (l_a.length = m_a ∧ m_a ≤ 120 ∧ Dig W l_a)) (HM_b : Hid (l_b.length = m_b ∧ m_b ≤ 120 ∧ Dig W l_b)) (HI_a : Hid (ival na l_a = za)) (HI_b : Hid (ival nb l_b = zb)) (Ba : za.natAbs < 2 ^ (32 * 120)) (Bb : zb.natAbs < 2 ^ (32 * 120)) (hz : zb ≠ 0) (hr : za.tmod zb ≠ 0) (hs : za.sign ≠ zb.sign) :
    Calls Try.prog 7 #[.agg #[.bool na, .slice Aa n_a ca], .agg #[.bool nb, .slice Ab n_b cb]] w fun e w' => e = .returned (.bool true) ∧ Below w.heap.size w w' := by
  have T_za := Lib.hid (tooLong_lt _ (by decide) Ba)
  have T_zb := Lib.hid (tooLong_lt _ (by decide) Bb)
  have HZ := Lib.hid hz
  have q1 := qr_sum za zb
  have q2 := dm_sum za zb
  have q3 := r_abs (x := za) hz
  have q4 := m_abs (x := za) hz
  have q5 := m_zero (x := za) hz
  have q6 := fun h => r_sign (x := za) (y := zb) h
  have q7 := m_sign (x := za) hz
  have q8 := qd_apart (x := za) hz
  obtain ⟨z1, hz1⟩ : ∃ z, za.tdiv zb = z := ⟨_, rfl⟩
  obtain ⟨z2, hz2⟩ : ∃ z, za.tmod zb = z := ⟨_, rfl⟩
  obtain ⟨zd, hzd⟩ : ∃ z, dvD za zb = z := ⟨_, rfl⟩
  obtain ⟨zm, hzm⟩ : ∃ z, dvM za zb = z := ⟨_, rfl⟩
  rw [hz1, hz2] at q1
  rw [hzd, hzm] at q2
  rw [hz2] at q3 q5 q6 q8 hr
  rw [hzm] at q4 q5 q7
  rw [hz1, hzd] at q8
  have B2 : z2.natAbs < 2 ^ (32 * 120) := Nat.lt_trans q3 Bb
  have Bm : zm.natAbs < 2 ^ (32 * 120) := Nat.lt_trans q4 Bb
  have Bqb : (z1 * zb).natAbs < 2 ^ (32 * 120 + 1) := by rw [show z1 * zb = za - z2 by omega]; have h9 := sub_bnd (k := 32 * 120) Ba B2; exact h9
  have Bdb : (zd * zb).natAbs < 2 ^ (32 * 120 + 1) := by rw [show zd * zb = za - zm by omega]; have h9 := sub_bnd (k := 32 * 120) Ba Bm; exact h9
  have hb1 : 1 ≤ zb.natAbs := by omega
  have B1 : z1.natAbs < 2 ^ (32 * 120 + 1) := by
    rw [Int.natAbs_mul] at Bqb
    exact Nat.lt_of_le_of_lt (Nat.le_mul_of_pos_right _ hb1) Bqb
  have Bd : zd.natAbs < 2 ^ (32 * 120 + 1) := by
    rw [Int.natAbs_mul] at Bdb
    exact Nat.lt_of_le_of_lt (Nat.le_mul_of_pos_right _ hb1) Bdb
  have E1 := Lib.hid hz1
  have E2 := Lib.hid hz2
  have E3 := Lib.hid hzd
  have E4 := Lib.hid hzm
  obtain ⟨zqb, hzqb⟩ : ∃ z, z1 * zb = z := ⟨_, rfl⟩
  obtain ⟨zdb, hzdb⟩ : ∃ z, zd * zb = z := ⟨_, rfl⟩
  rw [hzqb] at Bqb q1
  rw [hzdb] at Bdb q2
  have E5 := Lib.hid hzqb
  have E6 := Lib.hid hzdb
  have E7 := Lib.hid q1
  have E8 := Lib.hid q2
  have T_z1 := Lib.hid (tooLong_lt _ (by decide) B1)
  have T_z2 := Lib.hid (tooLong_lt _ (by decide) B2)
  have T_zd := Lib.hid (tooLong_lt _ (by decide) Bd)
  have T_zm := Lib.hid (tooLong_lt _ (by decide) Bm)
  have T_zqb := Lib.hid (tooLong_lt _ (by decide) Bqb)
  have T_zdb := Lib.hid (tooLong_lt _ (by decide) Bdb)
  obtain ⟨sb, hsb⟩ : ∃ s, zb.sign = s := ⟨_, rfl⟩
  have hsb0 : (sb == 0) = false := beq_eq_false_iff_ne.2 (by rw [← hsb]; exact fun e => hz (Int.sign_eq_zero_iff_zero.1 e))
  obtain ⟨ur, hur⟩ : ∃ z : Int, (z2.natAbs : Int) = z := ⟨_, rfl⟩
  obtain ⟨um, hum⟩ : ∃ z : Int, (zm.natAbs : Int) = z := ⟨_, rfl⟩
  obtain ⟨ub, hub⟩ : ∃ z : Int, (zb.natAbs : Int) = z := ⟨_, rfl⟩
  have c1 : cmpZ ur ub = -1 := cmpZ_lt (by omega)
  have c2 : cmpZ um ub = -1 := cmpZ_lt (by omega)
  obtain ⟨cm, hcm⟩ : ∃ c : Int, c = -1 := ⟨_, rfl⟩
  have hcm0 : decide (cm < 0) = true := by rw [hcm]; decide
  have F1 := Lib.hid (c1.trans hcm.symm)
  have F2 := Lib.hid (c2.trans hcm.symm)
  have U1 := Lib.hid hur
  have U2 := Lib.hid hum
  have U3 := Lib.hid hub
  obtain ⟨cq, hcq⟩ : ∃ c, cmpZ z1 zd = c := ⟨_, rfl⟩
  have hc0 := cmpZ_zero (x := z1) (y := zd)
  rw [hcq] at hc0
  have F3 := Lib.hid hcq
  have GB := Lib.hid hsb
  have hzm0 := mt q5.2 hr
  obtain ⟨sr, hsr⟩ : ∃ s, z2.sign = s := ⟨_, rfl⟩
  have hsr0 : (sr == 0) = false := beq_eq_false_iff_ne.2 (by rw [← hsr]; exact fun e => hr (Int.sign_eq_zero_iff_zero.1 e))
  have hsr1 : (sr != 0) = true := by rw [bne, hsr0]; rfl
  have GR := Lib.hid hsr
  have GA := Lib.hid (show za.sign = sr by rw [← q6 hr]; exact hsr)
  have GM := Lib.hid (show zm.sign = sb by rw [q7 hzm0]; exact hsb)
  have hcq0 : (cq != 0) = true := by
    rw [bne_iff_ne]
    intro e
    rcases q8.1 (hc0.1 e) with h | h
    · exact hr h
    · exact hs h
  have hrb : (sr != sb) = true := by
    rw [bne_iff_ne]
    intro e
    exact hs (GA.out.trans (e.trans hsb.symm))
  clear hsr hzm0 hs
  clear hz hr q1 q2 q3 q4 q5 q6 q7 q8 hz1 hz2 hzd hzm Ba Bb B1 B2 Bd Bm Bqb Bdb hb1 hzqb hzdb hsb hur hum hub c1 c2 hcm hcq hc0
  have K0 := Env.box (Env.nil w) (Old.nil w) (neg := na) hsa rfl
  have HN0 := Lib.hid (Env.box K0.1 K0.2 (neg := nb) hsb (g := w.heap.size + 1) (by simp))
  clear K0 hsa hsb
  go_enter Try.func7, Try.ntmps7
  go_wp2_with fail
  refine (awake_any _).mono ?_
  rintro ex w1 ⟨rfl, hb1⟩
  have HN1 : Hid (Env w w1 [⟨w.heap.size + 1, nb, Ab, n_b, cb, lb⟩, ⟨w.heap.size, na, Aa, n_a, ca, la⟩] ∧ Old w1 [⟨w.heap.size + 1, nb, Ab, n_b, cb, lb⟩, ⟨w.heap.size, na, Aa, n_a, ca, la⟩]) := Lib.hid ⟨HN0.out.1.below hb1, HN0.out.2.below hb1⟩
  clear hb1
  go_upto_region 2 with fail
  obtain ⟨x2a, x2b, x2c, x2d⟩ := (HN1.out.1.x (.tail _ (.head _))).facts
  go_wp2_with fail
  refine (HFew_a.out _ (HN1.out.1.s (.tail _ (.head _)))).mono ?_
  rintro ex w3' ⟨A3, c3, rfl, ho3, hb3⟩
  obtain ⟨y3a, y3b, y3c, y3d⟩ := ((HN1.out.1.below hb3).x (.tail _ (.head _))).facts
  have HN3 : Hid (Env w ((w3'.setCell ⟨w.heap.size, 0, none⟩ (.bool na)).setCell ⟨w.heap.size, 1, none⟩ (.slice A3 m_a c3)) [⟨w.heap.size + 1, nb, Ab, n_b, cb, lb⟩, ⟨w.heap.size, na, A3, m_a, c3, l_a⟩] ∧ Old ((w3'.setCell ⟨w.heap.size, 0, none⟩ (.bool na)).setCell ⟨w.heap.size, 1, none⟩ (.slice A3 m_a c3)) [⟨w.heap.size + 1, nb, Ab, n_b, cb, lb⟩, ⟨w.heap.size, na, A3, m_a, c3, l_a⟩]) := Lib.hid (Env.call_set HN1.out.1 HN1.out.2 hb3 ho3 HM_a.out.2.2 HM_a.out.1 1 rfl)
  clear ho3 hb3 x2a x2b x2c x2d
  go_upto_region 3 with fail
  generalize ((w3'.setCell ⟨w.heap.size, 0, none⟩ (.bool na)).setCell ⟨w.heap.size, 1, none⟩ (.slice A3 m_a c3)) = w3 at *
  clear y3a y3b y3c y3d
  go_upto_region 3 with fail
  obtain ⟨x4a, x4b, x4c, x4d⟩ := (HN3.out.1.x (.head _)).facts
  go_wp2_with fail
  refine (HFew_b.out _ (HN3.out.1.s (.head _))).mono ?_
  rintro ex w5' ⟨A5, c5, rfl, ho5, hb5⟩
  obtain ⟨y5a, y5b, y5c, y5d⟩ := ((HN3.out.1.below hb5).x (.head _)).facts
  have HN5 : Hid (Env w ((w5'.setCell ⟨w.heap.size + 1, 0, none⟩ (.bool nb)).setCell ⟨w.heap.size + 1, 1, none⟩ (.slice A5 m_b c5)) [⟨w.heap.size + 1, nb, A5, m_b, c5, l_b⟩, ⟨w.heap.size, na, A3, m_a, c3, l_a⟩] ∧ Old ((w5'.setCell ⟨w.heap.size + 1, 0, none⟩ (.bool nb)).setCell ⟨w.heap.size + 1, 1, none⟩ (.slice A5 m_b c5)) [⟨w.heap.size + 1, nb, A5, m_b, c5, l_b⟩, ⟨w.heap.size, na, A3, m_a, c3, l_a⟩]) := Lib.hid (Env.call_set HN3.out.1 HN3.out.2 hb5 ho5 HM_b.out.2.2 HM_b.out.1 0 rfl)
  clear ho5 hb5 x4a x4b x4c x4d
  go_upto_region 4 with fail
  generalize ((w5'.setCell ⟨w.heap.size + 1, 0, none⟩ (.bool nb)).setCell ⟨w.heap.size + 1, 1, none⟩ (.slice A5 m_b c5)) = w5 at *
  clear y5a y5b y5c y5d
  go_upto_region 4 with fail
  obtain ⟨x6a, x6b, x6c, x6d⟩ := (HN5.out.1.x (.tail _ (.head _))).facts
  obtain ⟨x7a, x7b, x7c, x7d⟩ := (HN5.out.1.x (.head _)).facts
  go_wp2_with fail
  refine (QuoRem_z (HN5.out.1.s (.tail _ (.head _))) (HN5.out.1.s (.head _)) (Nat.le_trans HM_a.out.2.1 (by decide)) (Nat.le_trans HM_b.out.2.1 (by decide)) HI_a.out HI_b.out HZ.out E1.out E2.out T_za.out T_zb.out).mono ?_
  rintro ex w8' ⟨v, v', rfl, ⟨A8, c8, rfl, ho8⟩, ⟨B8, d8, rfl, hp8⟩, hb8⟩
  have HN8 : Hid (Env w ((w8'.alloc (.cells #[.bool (decide (z1 < 0)), .slice A8 (digs W z1.natAbs).length c8] 24)).alloc (.cells #[.bool (decide (z2 < 0)), .slice B8 (digs W z2.natAbs).length d8] 24)) [⟨w8'.heap.size + 1, (decide (z2 < 0)), B8, (digs W z2.natAbs).length, d8, (digs W z2.natAbs)⟩, ⟨w8'.heap.size, (decide (z1 < 0)), A8, (digs W z1.natAbs).length, c8, (digs W z1.natAbs)⟩, ⟨w.heap.size + 1, nb, A5, m_b, c5, l_b⟩, ⟨w.heap.size, na, A3, m_a, c3, l_a⟩] ∧ Old ((w8'.alloc (.cells #[.bool (decide (z1 < 0)), .slice A8 (digs W z1.natAbs).length c8] 24)).alloc (.cells #[.bool (decide (z2 < 0)), .slice B8 (digs W z2.natAbs).length d8] 24)) [⟨w8'.heap.size + 1, (decide (z2 < 0)), B8, (digs W z2.natAbs).length, d8, (digs W z2.natAbs)⟩, ⟨w8'.heap.size, (decide (z1 < 0)), A8, (digs W z1.natAbs).length, c8, (digs W z1.natAbs)⟩, ⟨w.heap.size + 1, nb, A5, m_b, c5, l_b⟩, ⟨w.heap.size, na, A3, m_a, c3, l_a⟩]) := Lib.hid (Env.call_push2 HN5.out.1 HN5.out.2 hb8 ho8 (dig_digs (by decide) _) rfl hp8 (dig_digs (by decide) _) rfl)
  clear ho8 hp8 hb8 x6a x6b x6c x6d x7a x7b x7c x7d
  go_upto_region 5 with fail
  generalize ((w8'.alloc (.cells #[.bool (decide (z1 < 0)), .slice A8 (digs W z1.natAbs).length c8] 24)).alloc (.cells #[.bool (decide (z2 < 0)), .slice B8 (digs W z2.natAbs).length d8] 24)) = w8 at *
  generalize w8'.heap.size = g8 at *
  go_upto_region 5 with fail
  obtain ⟨x9a, x9b, x9c, x9d⟩ := (HN8.out.1.x (.tail _ (.tail _ (.tail _ (.head _))))).facts
  obtain ⟨x10a, x10b, x10c, x10d⟩ := (HN8.out.1.x (.tail _ (.tail _ (.head _)))).facts
  go_wp2_with fail
  refine (DivMod_z (HN8.out.1.s (.tail _ (.tail _ (.tail _ (.head _))))) (HN8.out.1.s (.tail _ (.tail _ (.head _)))) (Nat.le_trans HM_a.out.2.1 (by decide)) (Nat.le_trans HM_b.out.2.1 (by decide)) HI_a.out HI_b.out HZ.out E3.out E4.out T_za.out T_zb.out T_zd.out).mono ?_
  rintro ex w11' ⟨v, v', rfl, ⟨A11, c11, rfl, ho11⟩, ⟨B11, d11, rfl, hp11⟩, hb11⟩
  have HN11 : Hid (Env w ((w11'.alloc (.cells #[.bool (decide (zd < 0)), .slice A11 (digs W zd.natAbs).length c11] 24)).alloc (.cells #[.bool (decide (zm < 0)), .slice B11 (digs W zm.natAbs).length d11] 24)) [⟨w11'.heap.size + 1, (decide (zm < 0)), B11, (digs W zm.natAbs).length, d11, (digs W zm.natAbs)⟩, ⟨w11'.heap.size, (decide (zd < 0)), A11, (digs W zd.natAbs).length, c11, (digs W zd.natAbs)⟩, ⟨g8 + 1, (decide (z2 < 0)), B8, (digs W z2.natAbs).length, d8, (digs W z2.natAbs)⟩, ⟨g8, (decide (z1 < 0)), A8, (digs W z1.natAbs).length, c8, (digs W z1.natAbs)⟩, ⟨w.heap.size + 1, nb, A5, m_b, c5, l_b⟩, ⟨w.heap.size, na, A3, m_a, c3, l_a⟩] ∧ Old ((w11'.alloc (.cells #[.bool (decide (zd < 0)), .slice A11 (digs W zd.natAbs).length c11] 24)).alloc (.cells #[.bool (decide (zm < 0)), .slice B11 (digs W zm.natAbs).length d11] 24)) [⟨w11'.heap.size + 1, (decide (zm < 0)), B11, (digs W zm.natAbs).length, d11, (digs W zm.natAbs)⟩, ⟨w11'.heap.size, (decide (zd < 0)), A11, (digs W zd.natAbs).length, c11, (digs W zd.natAbs)⟩, ⟨g8 + 1, (decide (z2 < 0)), B8, (digs W z2.natAbs).length, d8, (digs W z2.natAbs)⟩, ⟨g8, (decide (z1 < 0)), A8, (digs W z1.natAbs).length, c8, (digs W z1.natAbs)⟩, ⟨w.heap.size + 1, nb, A5, m_b, c5, l_b⟩, ⟨w.heap.size, na, A3, m_a, c3, l_a⟩]) := Lib.hid (Env.call_push2 HN8.out.1 HN8.out.2 hb11 ho11 (dig_digs (by decide) _) rfl hp11 (dig_digs (by decide) _) rfl)
  clear ho11 hp11 hb11 x9a x9b x9c x9d x10a x10b x10c x10d
  go_upto_region 6 with fail
  generalize ((w11'.alloc (.cells #[.bool (decide (zd < 0)), .slice A11 (digs W zd.natAbs).length c11] 24)).alloc (.cells #[.bool (decide (zm < 0)), .slice B11 (digs W zm.natAbs).length d11] 24)) = w11 at *
  generalize w11'.heap.size = g11 at *
  go_upto_region 6 with fail
  obtain ⟨x12a, x12b, x12c, x12d⟩ := (HN11.out.1.x (.tail _ (.tail _ (.tail _ (.tail _ (.head _)))))).facts
  go_wp2_with fail
  refine (Sign_zk (HN11.out.1.s (.tail _ (.tail _ (.tail _ (.tail _ (.head _)))))) HI_b.out GB.out).mono ?_
  rintro ex w13' ⟨rfl, hb13⟩
  have HN13 : Hid (Env w w13' [⟨g11 + 1, (decide (zm < 0)), B11, (digs W zm.natAbs).length, d11, (digs W zm.natAbs)⟩, ⟨g11, (decide (zd < 0)), A11, (digs W zd.natAbs).length, c11, (digs W zd.natAbs)⟩, ⟨g8 + 1, (decide (z2 < 0)), B8, (digs W z2.natAbs).length, d8, (digs W z2.natAbs)⟩, ⟨g8, (decide (z1 < 0)), A8, (digs W z1.natAbs).length, c8, (digs W z1.natAbs)⟩, ⟨w.heap.size + 1, nb, A5, m_b, c5, l_b⟩, ⟨w.heap.size, na, A3, m_a, c3, l_a⟩] ∧ Old w13' [⟨g11 + 1, (decide (zm < 0)), B11, (digs W zm.natAbs).length, d11, (digs W zm.natAbs)⟩, ⟨g11, (decide (zd < 0)), A11, (digs W zd.natAbs).length, c11, (digs W zd.natAbs)⟩, ⟨g8 + 1, (decide (z2 < 0)), B8, (digs W z2.natAbs).length, d8, (digs W z2.natAbs)⟩, ⟨g8, (decide (z1 < 0)), A8, (digs W z1.natAbs).length, c8, (digs W z1.natAbs)⟩, ⟨w.heap.size + 1, nb, A5, m_b, c5, l_b⟩, ⟨w.heap.size, na, A3, m_a, c3, l_a⟩]) := Lib.hid ⟨HN11.out.1.below hb13, HN11.out.2.below hb13⟩
  clear hb13 x12a x12b x12c x12d
  go_upto_region 8 with fail
  go_upto_region 8 with fail
  obtain ⟨x14a, x14b, x14c, x14d⟩ := (HN13.out.1.x (.tail _ (.tail _ (.tail _ (.head _))))).facts
  obtain ⟨x15a, x15b, x15c, x15d⟩ := (HN13.out.1.x (.tail _ (.tail _ (.tail _ (.tail _ (.head _)))))).facts
  go_wp2_with fail
  refine (Mul_z (HN13.out.1.s (.tail _ (.tail _ (.tail _ (.head _))))) (HN13.out.1.s (.tail _ (.tail _ (.tail _ (.tail _ (.head _)))))) (Nat.le_trans (not_too_len T_z1.out) (by decide)) (Nat.le_trans HM_b.out.2.1 (by decide)) (ival_digs z1) HI_b.out E5.out T_z1.out T_zb.out T_zqb.out).mono ?_
  rintro ex w16' ⟨v, rfl, ⟨A16, c16, rfl, ho16⟩, hb16⟩
  have HN16 : Hid (Env w (w16'.alloc (.cells #[.bool (decide (zqb < 0)), .slice A16 (digs W zqb.natAbs).length c16] 24)) [⟨w16'.heap.size, (decide (zqb < 0)), A16, (digs W zqb.natAbs).length, c16, (digs W zqb.natAbs)⟩, ⟨g11 + 1, (decide (zm < 0)), B11, (digs W zm.natAbs).length, d11, (digs W zm.natAbs)⟩, ⟨g11, (decide (zd < 0)), A11, (digs W zd.natAbs).length, c11, (digs W zd.natAbs)⟩, ⟨g8 + 1, (decide (z2 < 0)), B8, (digs W z2.natAbs).length, d8, (digs W z2.natAbs)⟩, ⟨g8, (decide (z1 < 0)), A8, (digs W z1.natAbs).length, c8, (digs W z1.natAbs)⟩, ⟨w.heap.size + 1, nb, A5, m_b, c5, l_b⟩, ⟨w.heap.size, na, A3, m_a, c3, l_a⟩] ∧ Old (w16'.alloc (.cells #[.bool (decide (zqb < 0)), .slice A16 (digs W zqb.natAbs).length c16] 24)) [⟨w16'.heap.size, (decide (zqb < 0)), A16, (digs W zqb.natAbs).length, c16, (digs W zqb.natAbs)⟩, ⟨g11 + 1, (decide (zm < 0)), B11, (digs W zm.natAbs).length, d11, (digs W zm.natAbs)⟩, ⟨g11, (decide (zd < 0)), A11, (digs W zd.natAbs).length, c11, (digs W zd.natAbs)⟩, ⟨g8 + 1, (decide (z2 < 0)), B8, (digs W z2.natAbs).length, d8, (digs W z2.natAbs)⟩, ⟨g8, (decide (z1 < 0)), A8, (digs W z1.natAbs).length, c8, (digs W z1.natAbs)⟩, ⟨w.heap.size + 1, nb, A5, m_b, c5, l_b⟩, ⟨w.heap.size, na, A3, m_a, c3, l_a⟩]) := Lib.hid (Env.call_push HN13.out.1 HN13.out.2 hb16 ho16 (dig_digs (by decide) _) rfl)
  clear ho16 hb16 x14a x14b x14c x14d x15a x15b x15c x15d
  go_upto_region 9 with fail
  generalize (w16'.alloc (.cells #[.bool (decide (zqb < 0)), .slice A16 (digs W zqb.natAbs).length c16] 24)) = w16 at *
  generalize w16'.heap.size = g16 at *
  go_upto_region 9 with fail
  obtain ⟨x17a, x17b, x17c, x17d⟩ := (HN16.out.1.x (.head _)).facts
  obtain ⟨x18a, x18b, x18c, x18d⟩ := (HN16.out.1.x (.tail _ (.tail _ (.tail _ (.head _))))).facts
  go_wp2_with fail
  refine (Add_z (HN16.out.1.s (.head _)) (HN16.out.1.s (.tail _ (.tail _ (.tail _ (.head _))))) (Nat.le_trans (not_too_len T_zqb.out) (by decide)) (Nat.le_trans (not_too_len T_z2.out) (by decide)) (ival_digs zqb) (ival_digs z2) E7.out T_zqb.out T_z2.out T_za.out).mono ?_
  rintro ex w19' ⟨v, rfl, ⟨A19, c19, rfl, ho19⟩, hb19⟩
  have HN19 : Hid (Env w (w19'.alloc (.cells #[.bool (decide (za < 0)), .slice A19 (digs W za.natAbs).length c19] 24)) [⟨w19'.heap.size, (decide (za < 0)), A19, (digs W za.natAbs).length, c19, (digs W za.natAbs)⟩, ⟨g16, (decide (zqb < 0)), A16, (digs W zqb.natAbs).length, c16, (digs W zqb.natAbs)⟩, ⟨g11 + 1, (decide (zm < 0)), B11, (digs W zm.natAbs).length, d11, (digs W zm.natAbs)⟩, ⟨g11, (decide (zd < 0)), A11, (digs W zd.natAbs).length, c11, (digs W zd.natAbs)⟩, ⟨g8 + 1, (decide (z2 < 0)), B8, (digs W z2.natAbs).length, d8, (digs W z2.natAbs)⟩, ⟨g8, (decide (z1 < 0)), A8, (digs W z1.natAbs).length, c8, (digs W z1.natAbs)⟩, ⟨w.heap.size + 1, nb, A5, m_b, c5, l_b⟩, ⟨w.heap.size, na, A3, m_a, c3, l_a⟩] ∧ Old (w19'.alloc (.cells #[.bool (decide (za < 0)), .slice A19 (digs W za.natAbs).length c19] 24)) [⟨w19'.heap.size, (decide (za < 0)), A19, (digs W za.natAbs).length, c19, (digs W za.natAbs)⟩, ⟨g16, (decide (zqb < 0)), A16, (digs W zqb.natAbs).length, c16, (digs W zqb.natAbs)⟩, ⟨g11 + 1, (decide (zm < 0)), B11, (digs W zm.natAbs).length, d11, (digs W zm.natAbs)⟩, ⟨g11, (decide (zd < 0)), A11, (digs W zd.natAbs).length, c11, (digs W zd.natAbs)⟩, ⟨g8 + 1, (decide (z2 < 0)), B8, (digs W z2.natAbs).length, d8, (digs W z2.natAbs)⟩, ⟨g8, (decide (z1 < 0)), A8, (digs W z1.natAbs).length, c8, (digs W z1.natAbs)⟩, ⟨w.heap.size + 1, nb, A5, m_b, c5, l_b⟩, ⟨w.heap.size, na, A3, m_a, c3, l_a⟩]) := Lib.hid (Env.call_push HN16.out.1 HN16.out.2 hb19 ho19 (dig_digs (by decide) _) rfl)
  clear ho19 hb19 x17a x17b x17c x17d x18a x18b x18c x18d
  go_upto_region 10 with fail
  generalize (w19'.alloc (.cells #[.bool (decide (za < 0)), .slice A19 (digs W za.natAbs).length c19] 24)) = w19 at *
  generalize w19'.heap.size = g19 at *
  go_upto_region 10 with fail
  obtain ⟨x20a, x20b, x20c, x20d⟩ := (HN19.out.1.x (.head _)).facts
  obtain ⟨x21a, x21b, x21c, x21d⟩ := (HN19.out.1.x (.tail _ (.tail _ (.tail _ (.tail _ (.tail _ (.tail _ (.tail _ (.head _))))))))).facts
  go_wp2_with fail
  refine (same_z (HN19.out.1.s (.head _)) (HN19.out.1.s (.tail _ (.tail _ (.tail _ (.tail _ (.tail _ (.tail _ (.tail _ (.head _))))))))) (ival_digs za) HI_a.out).mono ?_
  rintro ex w22' ⟨rfl, hb22⟩
  have HN22 : Hid (Env w w22' [⟨g19, (decide (za < 0)), A19, (digs W za.natAbs).length, c19, (digs W za.natAbs)⟩, ⟨g16, (decide (zqb < 0)), A16, (digs W zqb.natAbs).length, c16, (digs W zqb.natAbs)⟩, ⟨g11 + 1, (decide (zm < 0)), B11, (digs W zm.natAbs).length, d11, (digs W zm.natAbs)⟩, ⟨g11, (decide (zd < 0)), A11, (digs W zd.natAbs).length, c11, (digs W zd.natAbs)⟩, ⟨g8 + 1, (decide (z2 < 0)), B8, (digs W z2.natAbs).length, d8, (digs W z2.natAbs)⟩, ⟨g8, (decide (z1 < 0)), A8, (digs W z1.natAbs).length, c8, (digs W z1.natAbs)⟩, ⟨w.heap.size + 1, nb, A5, m_b, c5, l_b⟩, ⟨w.heap.size, na, A3, m_a, c3, l_a⟩] ∧ Old w22' [⟨g19, (decide (za < 0)), A19, (digs W za.natAbs).length, c19, (digs W za.natAbs)⟩, ⟨g16, (decide (zqb < 0)), A16, (digs W zqb.natAbs).length, c16, (digs W zqb.natAbs)⟩, ⟨g11 + 1, (decide (zm < 0)), B11, (digs W zm.natAbs).length, d11, (digs W zm.natAbs)⟩, ⟨g11, (decide (zd < 0)), A11, (digs W zd.natAbs).length, c11, (digs W zd.natAbs)⟩, ⟨g8 + 1, (decide (z2 < 0)), B8, (digs W z2.natAbs).length, d8, (digs W z2.natAbs)⟩, ⟨g8, (decide (z1 < 0)), A8, (digs W z1.natAbs).length, c8, (digs W z1.natAbs)⟩, ⟨w.heap.size + 1, nb, A5, m_b, c5, l_b⟩, ⟨w.heap.size, na, A3, m_a, c3, l_a⟩]) := Lib.hid ⟨HN19.out.1.below hb22, HN19.out.2.below hb22⟩
  clear hb22 x20a x20b x20c x20d x21a x21b x21c x21d
  go_upto_region 11 with fail
  go_upto_region 11 with fail
  obtain ⟨x23a, x23b, x23c, x23d⟩ := (HN22.out.1.x (.tail _ (.tail _ (.tail _ (.head _))))).facts
  obtain ⟨x24a, x24b, x24c, x24d⟩ := (HN22.out.1.x (.tail _ (.tail _ (.tail _ (.tail _ (.tail _ (.tail _ (.head _)))))))).facts
  go_wp2_with fail
  refine (Mul_z (HN22.out.1.s (.tail _ (.tail _ (.tail _ (.head _))))) (HN22.out.1.s (.tail _ (.tail _ (.tail _ (.tail _ (.tail _ (.tail _ (.head _)))))))) (Nat.le_trans (not_too_len T_zd.out) (by decide)) (Nat.le_trans HM_b.out.2.1 (by decide)) (ival_digs zd) HI_b.out E6.out T_zd.out T_zb.out T_zdb.out).mono ?_
  rintro ex w25' ⟨v, rfl, ⟨A25, c25, rfl, ho25⟩, hb25⟩
  obtain ⟨y25a, y25b, y25c, y25d⟩ := ((HN22.out.1.below hb25).x (.tail _ (.head _))).facts
  have HN25 : Hid (Env w ((w25'.setCell ⟨g16, 0, none⟩ (.bool (decide (zdb < 0)))).setCell ⟨g16, 1, none⟩ (.slice A25 (digs W zdb.natAbs).length c25)) [⟨g19, (decide (za < 0)), A19, (digs W za.natAbs).length, c19, (digs W za.natAbs)⟩, ⟨g16, (decide (zdb < 0)), A25, (digs W zdb.natAbs).length, c25, (digs W zdb.natAbs)⟩, ⟨g11 + 1, (decide (zm < 0)), B11, (digs W zm.natAbs).length, d11, (digs W zm.natAbs)⟩, ⟨g11, (decide (zd < 0)), A11, (digs W zd.natAbs).length, c11, (digs W zd.natAbs)⟩, ⟨g8 + 1, (decide (z2 < 0)), B8, (digs W z2.natAbs).length, d8, (digs W z2.natAbs)⟩, ⟨g8, (decide (z1 < 0)), A8, (digs W z1.natAbs).length, c8, (digs W z1.natAbs)⟩, ⟨w.heap.size + 1, nb, A5, m_b, c5, l_b⟩, ⟨w.heap.size, na, A3, m_a, c3, l_a⟩] ∧ Old ((w25'.setCell ⟨g16, 0, none⟩ (.bool (decide (zdb < 0)))).setCell ⟨g16, 1, none⟩ (.slice A25 (digs W zdb.natAbs).length c25)) [⟨g19, (decide (za < 0)), A19, (digs W za.natAbs).length, c19, (digs W za.natAbs)⟩, ⟨g16, (decide (zdb < 0)), A25, (digs W zdb.natAbs).length, c25, (digs W zdb.natAbs)⟩, ⟨g11 + 1, (decide (zm < 0)), B11, (digs W zm.natAbs).length, d11, (digs W zm.natAbs)⟩, ⟨g11, (decide (zd < 0)), A11, (digs W zd.natAbs).length, c11, (digs W zd.natAbs)⟩, ⟨g8 + 1, (decide (z2 < 0)), B8, (digs W z2.natAbs).length, d8, (digs W z2.natAbs)⟩, ⟨g8, (decide (z1 < 0)), A8, (digs W z1.natAbs).length, c8, (digs W z1.natAbs)⟩, ⟨w.heap.size + 1, nb, A5, m_b, c5, l_b⟩, ⟨w.heap.size, na, A3, m_a, c3, l_a⟩]) := Lib.hid (Env.call_set HN22.out.1 HN22.out.2 hb25 ho25 (dig_digs (by decide) _) rfl 1 rfl)
  clear ho25 hb25 x23a x23b x23c x23d x24a x24b x24c x24d
  go_upto_region 12 with fail
  generalize ((w25'.setCell ⟨g16, 0, none⟩ (.bool (decide (zdb < 0)))).setCell ⟨g16, 1, none⟩ (.slice A25 (digs W zdb.natAbs).length c25)) = w25 at *
  clear y25a y25b y25c y25d
  go_upto_region 12 with fail
  obtain ⟨x26a, x26b, x26c, x26d⟩ := (HN25.out.1.x (.tail _ (.head _))).facts
  obtain ⟨x27a, x27b, x27c, x27d⟩ := (HN25.out.1.x (.tail _ (.tail _ (.head _)))).facts
  go_wp2_with fail
  refine (Add_z (HN25.out.1.s (.tail _ (.head _))) (HN25.out.1.s (.tail _ (.tail _ (.head _)))) (Nat.le_trans (not_too_len T_zdb.out) (by decide)) (Nat.le_trans (not_too_len T_zm.out) (by decide)) (ival_digs zdb) (ival_digs zm) E8.out T_zdb.out T_zm.out T_za.out).mono ?_
  rintro ex w28' ⟨v, rfl, ⟨A28, c28, rfl, ho28⟩, hb28⟩
  have HN28 : Hid (Env w (w28'.alloc (.cells #[.bool (decide (za < 0)), .slice A28 (digs W za.natAbs).length c28] 24)) [⟨w28'.heap.size, (decide (za < 0)), A28, (digs W za.natAbs).length, c28, (digs W za.natAbs)⟩, ⟨g19, (decide (za < 0)), A19, (digs W za.natAbs).length, c19, (digs W za.natAbs)⟩, ⟨g16, (decide (zdb < 0)), A25, (digs W zdb.natAbs).length, c25, (digs W zdb.natAbs)⟩, ⟨g11 + 1, (decide (zm < 0)), B11, (digs W zm.natAbs).length, d11, (digs W zm.natAbs)⟩, ⟨g11, (decide (zd < 0)), A11, (digs W zd.natAbs).length, c11, (digs W zd.natAbs)⟩, ⟨g8 + 1, (decide (z2 < 0)), B8, (digs W z2.natAbs).length, d8, (digs W z2.natAbs)⟩, ⟨g8, (decide (z1 < 0)), A8, (digs W z1.natAbs).length, c8, (digs W z1.natAbs)⟩, ⟨w.heap.size + 1, nb, A5, m_b, c5, l_b⟩, ⟨w.heap.size, na, A3, m_a, c3, l_a⟩] ∧ Old (w28'.alloc (.cells #[.bool (decide (za < 0)), .slice A28 (digs W za.natAbs).length c28] 24)) [⟨w28'.heap.size, (decide (za < 0)), A28, (digs W za.natAbs).length, c28, (digs W za.natAbs)⟩, ⟨g19, (decide (za < 0)), A19, (digs W za.natAbs).length, c19, (digs W za.natAbs)⟩, ⟨g16, (decide (zdb < 0)), A25, (digs W zdb.natAbs).length, c25, (digs W zdb.natAbs)⟩, ⟨g11 + 1, (decide (zm < 0)), B11, (digs W zm.natAbs).length, d11, (digs W zm.natAbs)⟩, ⟨g11, (decide (zd < 0)), A11, (digs W zd.natAbs).length, c11, (digs W zd.natAbs)⟩, ⟨g8 + 1, (decide (z2 < 0)), B8, (digs W z2.natAbs).length, d8, (digs W z2.natAbs)⟩, ⟨g8, (decide (z1 < 0)), A8, (digs W z1.natAbs).length, c8, (digs W z1.natAbs)⟩, ⟨w.heap.size + 1, nb, A5, m_b, c5, l_b⟩, ⟨w.heap.size, na, A3, m_a, c3, l_a⟩]) := Lib.hid (Env.call_push HN25.out.1 HN25.out.2 hb28 ho28 (dig_digs (by decide) _) rfl)
  clear ho28 hb28 x26a x26b x26c x26d x27a x27b x27c x27d
  go_upto_region 13 with fail
  generalize (w28'.alloc (.cells #[.bool (decide (za < 0)), .slice A28 (digs W za.natAbs).length c28] 24)) = w28 at *
  generalize w28'.heap.size = g28 at *
  go_upto_region 13 with fail
  obtain ⟨x29a, x29b, x29c, x29d⟩ := (HN28.out.1.x (.head _)).facts
  obtain ⟨x30a, x30b, x30c, x30d⟩ := (HN28.out.1.x (.tail _ (.tail _ (.tail _ (.tail _ (.tail _ (.tail _ (.tail _ (.tail _ (.head _)))))))))).facts
  go_wp2_with fail
  refine (same_z (HN28.out.1.s (.head _)) (HN28.out.1.s (.tail _ (.tail _ (.tail _ (.tail _ (.tail _ (.tail _ (.tail _ (.tail _ (.head _)))))))))) (ival_digs za) HI_a.out).mono ?_
  rintro ex w31' ⟨rfl, hb31⟩
  have HN31 : Hid (Env w w31' [⟨g28, (decide (za < 0)), A28, (digs W za.natAbs).length, c28, (digs W za.natAbs)⟩, ⟨g19, (decide (za < 0)), A19, (digs W za.natAbs).length, c19, (digs W za.natAbs)⟩, ⟨g16, (decide (zdb < 0)), A25, (digs W zdb.natAbs).length, c25, (digs W zdb.natAbs)⟩, ⟨g11 + 1, (decide (zm < 0)), B11, (digs W zm.natAbs).length, d11, (digs W zm.natAbs)⟩, ⟨g11, (decide (zd < 0)), A11, (digs W zd.natAbs).length, c11, (digs W zd.natAbs)⟩, ⟨g8 + 1, (decide (z2 < 0)), B8, (digs W z2.natAbs).length, d8, (digs W z2.natAbs)⟩, ⟨g8, (decide (z1 < 0)), A8, (digs W z1.natAbs).length, c8, (digs W z1.natAbs)⟩, ⟨w.heap.size + 1, nb, A5, m_b, c5, l_b⟩, ⟨w.heap.size, na, A3, m_a, c3, l_a⟩] ∧ Old w31' [⟨g28, (decide (za < 0)), A28, (digs W za.natAbs).length, c28, (digs W za.natAbs)⟩, ⟨g19, (decide (za < 0)), A19, (digs W za.natAbs).length, c19, (digs W za.natAbs)⟩, ⟨g16, (decide (zdb < 0)), A25, (digs W zdb.natAbs).length, c25, (digs W zdb.natAbs)⟩, ⟨g11 + 1, (decide (zm < 0)), B11, (digs W zm.natAbs).length, d11, (digs W zm.natAbs)⟩, ⟨g11, (decide (zd < 0)), A11, (digs W zd.natAbs).length, c11, (digs W zd.natAbs)⟩, ⟨g8 + 1, (decide (z2 < 0)), B8, (digs W z2.natAbs).length, d8, (digs W z2.natAbs)⟩, ⟨g8, (decide (z1 < 0)), A8, (digs W z1.natAbs).length, c8, (digs W z1.natAbs)⟩, ⟨w.heap.size + 1, nb, A5, m_b, c5, l_b⟩, ⟨w.heap.size, na, A3, m_a, c3, l_a⟩]) := Lib.hid ⟨HN28.out.1.below hb31, HN28.out.2.below hb31⟩
  clear hb31 x29a x29b x29c x29d x30a x30b x30c x30d
  go_upto_region 14 with fail
  go_upto_region 14 with fail
  obtain ⟨x32a, x32b, x32c, x32d⟩ := (HN31.out.1.x (.tail _ (.tail _ (.tail _ (.tail _ (.tail _ (.head _))))))).facts
  obtain ⟨x33a, x33b, x33c, x33d⟩ := (HN31.out.1.x (.tail _ (.tail _ (.tail _ (.tail _ (.tail _ (.tail _ (.tail _ (.head _))))))))).facts
  obtain ⟨x34a, x34b, x34c, x34d⟩ := (HN31.out.1.x (.tail _ (.tail _ (.tail _ (.head _))))).facts
  have hS35 := Lib.hid (fun w' (hb : Below w31'.heap.size w31' w') => (And.intro (And.intro ((HN31.out.1.below hb).x (.tail _ (.tail _ (.tail _ (.tail _ (.tail _ (.head _))))))).facts.1 ((HN31.out.1.below hb).x (.tail _ (.tail _ (.tail _ (.tail _ (.tail _ (.head _))))))).facts.2.1) (And.intro (And.intro ((HN31.out.1.below hb).x (.tail _ (.tail _ (.tail _ (.tail _ (.tail _ (.tail _ (.tail _ (.head _))))))))).facts.1 ((HN31.out.1.below hb).x (.tail _ (.tail _ (.tail _ (.tail _ (.tail _ (.tail _ (.tail _ (.head _))))))))).facts.2.1) (And.intro ((HN31.out.1.below hb).x (.tail _ (.tail _ (.tail _ (.head _))))).facts.1 ((HN31.out.1.below hb).x (.tail _ (.tail _ (.tail _ (.head _))))).facts.2.1))))
  have hV35_0 : Hid (∀ w', Below w31'.heap.size w31' w' → SlU w' w'.heap.size B8 (digs W z2.natAbs).length d8 (digs W z2.natAbs)) := Lib.hid (fun w' hb => SlU.to (HN31.out.1.s (.tail _ (.tail _ (.tail _ (.tail _ (.tail _ (.head _))))))) hb (Nat.le_refl _))
  have hV35_1 : Hid (∀ w', Below w31'.heap.size w31' w' → SlU w' w'.heap.size A5 m_b c5 l_b) := Lib.hid (fun w' hb => SlU.to (HN31.out.1.s (.tail _ (.tail _ (.tail _ (.tail _ (.tail _ (.tail _ (.tail _ (.head _))))))))) hb (Nat.le_refl _))
  have hV35_2 : Hid (∀ w', Below w31'.heap.size w31' w' → SlU w' w'.heap.size B11 (digs W zm.natAbs).length d11 (digs W zm.natAbs)) := Lib.hid (fun w' hb => SlU.to (HN31.out.1.s (.tail _ (.tail _ (.tail _ (.head _))))) hb (Nat.le_refl _))
  go_region_held3 (fun w' => (w'.cell? ⟨g8 + 1, 0, none⟩ = some (.bool (decide (z2 < 0))) ∧ w'.cell? ⟨g8 + 1, 1, none⟩ = some (.slice B8 (digs W z2.natAbs).length d8)) ∧ (w'.cell? ⟨w.heap.size + 1, 0, none⟩ = some (.bool nb) ∧ w'.cell? ⟨w.heap.size + 1, 1, none⟩ = some (.slice A5 m_b c5)) ∧ (w'.cell? ⟨g11 + 1, 0, none⟩ = some (.bool (decide (zm < 0))) ∧ w'.cell? ⟨g11 + 1, 1, none⟩ = some (.slice B11 (digs W zm.natAbs).length d11)))
    (first | (go_keep; done) | exact hS35.out _ k35_5 | exact hS35.out _ k35_4 | exact hS35.out _ k35_3 | exact hS35.out _ k35_2 | exact hS35.out _ k35_1 | exact hS35.out _ k35_0 | exact hS35.out _ (Below.refl w31'.heap.size w31').drew)
    (first
      | (go_at_call 49; (with_reducible refine (abs_any (hV35_0.out _ (Below.refl w31'.heap.size w31').drew) (Nat.le_trans (not_too_len T_z2.out) (by decide)) (ival_digs z2) U1.out).mono ?_); rintro e y35_0 ⟨v, rfl, ⟨A35_0, c35_0, rfl, ho35_0⟩, hb35_0⟩; have k35_0 : Below w31'.heap.size w31' y35_0 := ((Below.refl w31'.heap.size w31').drew).trans (hb35_0.mono (Nat.le_refl _)))
      | (go_at_call 49; (with_reducible refine (abs_any (hV35_1.out _ k35_0) (Nat.le_trans HM_b.out.2.1 (by decide)) HI_b.out U3.out).mono ?_); rintro e y35_1 ⟨v, rfl, ⟨A35_1, c35_1, rfl, ho35_1⟩, hb35_1⟩; have k35_1 : Below w31'.heap.size w31' y35_1 := (k35_0).trans (hb35_1.mono (k35_0).size))
      | (go_at_call 32; (with_reducible refine (Cmp_zk (SlU.to (Own.int ho35_0) hb35_1 (Nat.le_refl _)) (Own.int ho35_1) (ival_digs ur) (ival_digs ub) F1.out).mono ?_); rintro e y35_2 ⟨rfl, hb35_2⟩; have k35_2 : Below w31'.heap.size w31' y35_2 := (k35_1).trans (hb35_2.mono (k35_1).size))
      | (go_at_call 49; (with_reducible refine (abs_any (hV35_2.out _ k35_2) (Nat.le_trans (not_too_len T_zm.out) (by decide)) (ival_digs zm) U2.out).mono ?_); rintro e y35_3 ⟨v, rfl, ⟨A35_3, c35_3, rfl, ho35_3⟩, hb35_3⟩; have k35_3 : Below w31'.heap.size w31' y35_3 := (k35_2).trans (hb35_3.mono (k35_2).size))
      | (go_at_call 49; (with_reducible refine (abs_any (hV35_1.out _ k35_3) (Nat.le_trans HM_b.out.2.1 (by decide)) HI_b.out U3.out).mono ?_); rintro e y35_4 ⟨v, rfl, ⟨A35_4, c35_4, rfl, ho35_4⟩, hb35_4⟩; have k35_4 : Below w31'.heap.size w31' y35_4 := (k35_3).trans (hb35_4.mono (k35_3).size))
      | (go_at_call 32; (with_reducible refine (Cmp_zk (SlU.to (Own.int ho35_3) hb35_4 (Nat.le_refl _)) (Own.int ho35_4) (ival_digs um) (ival_digs ub) F2.out).mono ?_); rintro e y35_5 ⟨rfl, hb35_5⟩; have k35_5 : Below w31'.heap.size w31' y35_5 := (k35_4).trans (hb35_5.mono (k35_4).size)))
  have HN35 : Hid (Env w y35_5 [⟨g28, (decide (za < 0)), A28, (digs W za.natAbs).length, c28, (digs W za.natAbs)⟩, ⟨g19, (decide (za < 0)), A19, (digs W za.natAbs).length, c19, (digs W za.natAbs)⟩, ⟨g16, (decide (zdb < 0)), A25, (digs W zdb.natAbs).length, c25, (digs W zdb.natAbs)⟩, ⟨g11 + 1, (decide (zm < 0)), B11, (digs W zm.natAbs).length, d11, (digs W zm.natAbs)⟩, ⟨g11, (decide (zd < 0)), A11, (digs W zd.natAbs).length, c11, (digs W zd.natAbs)⟩, ⟨g8 + 1, (decide (z2 < 0)), B8, (digs W z2.natAbs).length, d8, (digs W z2.natAbs)⟩, ⟨g8, (decide (z1 < 0)), A8, (digs W z1.natAbs).length, c8, (digs W z1.natAbs)⟩, ⟨w.heap.size + 1, nb, A5, m_b, c5, l_b⟩, ⟨w.heap.size, na, A3, m_a, c3, l_a⟩] ∧ Old y35_5 [⟨g28, (decide (za < 0)), A28, (digs W za.natAbs).length, c28, (digs W za.natAbs)⟩, ⟨g19, (decide (za < 0)), A19, (digs W za.natAbs).length, c19, (digs W za.natAbs)⟩, ⟨g16, (decide (zdb < 0)), A25, (digs W zdb.natAbs).length, c25, (digs W zdb.natAbs)⟩, ⟨g11 + 1, (decide (zm < 0)), B11, (digs W zm.natAbs).length, d11, (digs W zm.natAbs)⟩, ⟨g11, (decide (zd < 0)), A11, (digs W zd.natAbs).length, c11, (digs W zd.natAbs)⟩, ⟨g8 + 1, (decide (z2 < 0)), B8, (digs W z2.natAbs).length, d8, (digs W z2.natAbs)⟩, ⟨g8, (decide (z1 < 0)), A8, (digs W z1.natAbs).length, c8, (digs W z1.natAbs)⟩, ⟨w.heap.size + 1, nb, A5, m_b, c5, l_b⟩, ⟨w.heap.size, na, A3, m_a, c3, l_a⟩]) := Lib.hid ⟨HN31.out.1.below k35_5, HN31.out.2.below k35_5⟩
  clear hb35_0 k35_0 ho35_0 hb35_1 k35_1 ho35_1 hb35_2 k35_2 hb35_3 k35_3 ho35_3 hb35_4 k35_4 ho35_4 hb35_5 k35_5 x32a x32b x32c x32d x33a x33b x33c x33d x34a x34b x34c x34d
  go_upto_region 15 with fail
  go_upto_region 15 with fail
  obtain ⟨x36a, x36b, x36c, x36d⟩ := (HN35.out.1.x (.tail _ (.tail _ (.tail _ (.tail _ (.tail _ (.head _))))))).facts
  obtain ⟨x37a, x37b, x37c, x37d⟩ := (HN35.out.1.x (.tail _ (.tail _ (.tail _ (.tail _ (.tail _ (.tail _ (.tail _ (.tail _ (.head _)))))))))).facts
  obtain ⟨x38a, x38b, x38c, x38d⟩ := (HN35.out.1.x (.tail _ (.tail _ (.tail _ (.head _))))).facts
  obtain ⟨x39a, x39b, x39c, x39d⟩ := (HN35.out.1.x (.tail _ (.tail _ (.tail _ (.tail _ (.tail _ (.tail _ (.tail _ (.head _))))))))).facts
  have hS40 := Lib.hid (fun w' (hb : Below y35_5.heap.size y35_5 w') => (And.intro (And.intro ((HN35.out.1.below hb).x (.tail _ (.tail _ (.tail _ (.tail _ (.tail _ (.head _))))))).facts.1 ((HN35.out.1.below hb).x (.tail _ (.tail _ (.tail _ (.tail _ (.tail _ (.head _))))))).facts.2.1) (And.intro (And.intro ((HN35.out.1.below hb).x (.tail _ (.tail _ (.tail _ (.tail _ (.tail _ (.tail _ (.tail _ (.tail _ (.head _)))))))))).facts.1 ((HN35.out.1.below hb).x (.tail _ (.tail _ (.tail _ (.tail _ (.tail _ (.tail _ (.tail _ (.tail _ (.head _)))))))))).facts.2.1) (And.intro (And.intro ((HN35.out.1.below hb).x (.tail _ (.tail _ (.tail _ (.head _))))).facts.1 ((HN35.out.1.below hb).x (.tail _ (.tail _ (.tail _ (.head _))))).facts.2.1) (And.intro ((HN35.out.1.below hb).x (.tail _ (.tail _ (.tail _ (.tail _ (.tail _ (.tail _ (.tail _ (.head _))))))))).facts.1 ((HN35.out.1.below hb).x (.tail _ (.tail _ (.tail _ (.tail _ (.tail _ (.tail _ (.tail _ (.head _))))))))).facts.2.1)))))
  have hV40_0 : Hid (∀ w', Below y35_5.heap.size y35_5 w' → SlU w' w'.heap.size B8 (digs W z2.natAbs).length d8 (digs W z2.natAbs)) := Lib.hid (fun w' hb => SlU.to (HN35.out.1.s (.tail _ (.tail _ (.tail _ (.tail _ (.tail _ (.head _))))))) hb (Nat.le_refl _))
  have hV40_1 : Hid (∀ w', Below y35_5.heap.size y35_5 w' → SlU w' w'.heap.size A3 m_a c3 l_a) := Lib.hid (fun w' hb => SlU.to (HN35.out.1.s (.tail _ (.tail _ (.tail _ (.tail _ (.tail _ (.tail _ (.tail _ (.tail _ (.head _)))))))))) hb (Nat.le_refl _))
  have hV40_2 : Hid (∀ w', Below y35_5.heap.size y35_5 w' → SlU w' w'.heap.size B11 (digs W zm.natAbs).length d11 (digs W zm.natAbs)) := Lib.hid (fun w' hb => SlU.to (HN35.out.1.s (.tail _ (.tail _ (.tail _ (.head _))))) hb (Nat.le_refl _))
  have hV40_3 : Hid (∀ w', Below y35_5.heap.size y35_5 w' → SlU w' w'.heap.size A5 m_b c5 l_b) := Lib.hid (fun w' hb => SlU.to (HN35.out.1.s (.tail _ (.tail _ (.tail _ (.tail _ (.tail _ (.tail _ (.tail _ (.head _))))))))) hb (Nat.le_refl _))
  go_region_held3 (fun w' => (w'.cell? ⟨g8 + 1, 0, none⟩ = some (.bool (decide (z2 < 0))) ∧ w'.cell? ⟨g8 + 1, 1, none⟩ = some (.slice B8 (digs W z2.natAbs).length d8)) ∧ (w'.cell? ⟨w.heap.size, 0, none⟩ = some (.bool na) ∧ w'.cell? ⟨w.heap.size, 1, none⟩ = some (.slice A3 m_a c3)) ∧ (w'.cell? ⟨g11 + 1, 0, none⟩ = some (.bool (decide (zm < 0))) ∧ w'.cell? ⟨g11 + 1, 1, none⟩ = some (.slice B11 (digs W zm.natAbs).length d11)) ∧ (w'.cell? ⟨w.heap.size + 1, 0, none⟩ = some (.bool nb) ∧ w'.cell? ⟨w.heap.size + 1, 1, none⟩ = some (.slice A5 m_b c5)))
    (first | (go_keep; done) | exact hS40.out _ k40_5 | exact hS40.out _ k40_4 | exact hS40.out _ k40_3 | exact hS40.out _ k40_2 | exact hS40.out _ k40_1 | exact hS40.out _ k40_0 | exact hS40.out _ (Below.refl y35_5.heap.size y35_5).drew)
    (first
      | (go_at_call 42; (with_reducible refine (Sign_zk (hV40_0.out _ (Below.refl y35_5.heap.size y35_5).drew) (ival_digs z2) GR.out).mono ?_); rintro e y40_0 ⟨rfl, hb40_0⟩; have k40_0 : Below y35_5.heap.size y35_5 y40_0 := ((Below.refl y35_5.heap.size y35_5).drew).trans (hb40_0.mono (Nat.le_refl _)))
      | (go_at_call 42; (with_reducible refine (Sign_zk (hV40_0.out _ k40_0) (ival_digs z2) GR.out).mono ?_); rintro e y40_1 ⟨rfl, hb40_1⟩; have k40_1 : Below y35_5.heap.size y35_5 y40_1 := (k40_0).trans (hb40_1.mono (k40_0).size))
      | (go_at_call 42; (with_reducible refine (Sign_zk (hV40_1.out _ k40_1) HI_a.out GA.out).mono ?_); rintro e y40_2 ⟨rfl, hb40_2⟩; have k40_2 : Below y35_5.heap.size y35_5 y40_2 := (k40_1).trans (hb40_2.mono (k40_1).size))
      | (go_at_call 42; (with_reducible refine (Sign_zk (hV40_2.out _ k40_2) (ival_digs zm) GM.out).mono ?_); rintro e y40_3 ⟨rfl, hb40_3⟩; have k40_3 : Below y35_5.heap.size y35_5 y40_3 := (k40_2).trans (hb40_3.mono (k40_2).size))
      | (go_at_call 42; (with_reducible refine (Sign_zk (hV40_2.out _ k40_3) (ival_digs zm) GM.out).mono ?_); rintro e y40_4 ⟨rfl, hb40_4⟩; have k40_4 : Below y35_5.heap.size y35_5 y40_4 := (k40_3).trans (hb40_4.mono (k40_3).size))
      | (go_at_call 42; (with_reducible refine (Sign_zk (hV40_3.out _ k40_4) HI_b.out GB.out).mono ?_); rintro e y40_5 ⟨rfl, hb40_5⟩; have k40_5 : Below y35_5.heap.size y35_5 y40_5 := (k40_4).trans (hb40_5.mono (k40_4).size)))
  have HN40 : Hid (Env w y40_5 [⟨g28, (decide (za < 0)), A28, (digs W za.natAbs).length, c28, (digs W za.natAbs)⟩, ⟨g19, (decide (za < 0)), A19, (digs W za.natAbs).length, c19, (digs W za.natAbs)⟩, ⟨g16, (decide (zdb < 0)), A25, (digs W zdb.natAbs).length, c25, (digs W zdb.natAbs)⟩, ⟨g11 + 1, (decide (zm < 0)), B11, (digs W zm.natAbs).length, d11, (digs W zm.natAbs)⟩, ⟨g11, (decide (zd < 0)), A11, (digs W zd.natAbs).length, c11, (digs W zd.natAbs)⟩, ⟨g8 + 1, (decide (z2 < 0)), B8, (digs W z2.natAbs).length, d8, (digs W z2.natAbs)⟩, ⟨g8, (decide (z1 < 0)), A8, (digs W z1.natAbs).length, c8, (digs W z1.natAbs)⟩, ⟨w.heap.size + 1, nb, A5, m_b, c5, l_b⟩, ⟨w.heap.size, na, A3, m_a, c3, l_a⟩] ∧ Old y40_5 [⟨g28, (decide (za < 0)), A28, (digs W za.natAbs).length, c28, (digs W za.natAbs)⟩, ⟨g19, (decide (za < 0)), A19, (digs W za.natAbs).length, c19, (digs W za.natAbs)⟩, ⟨g16, (decide (zdb < 0)), A25, (digs W zdb.natAbs).length, c25, (digs W zdb.natAbs)⟩, ⟨g11 + 1, (decide (zm < 0)), B11, (digs W zm.natAbs).length, d11, (digs W zm.natAbs)⟩, ⟨g11, (decide (zd < 0)), A11, (digs W zd.natAbs).length, c11, (digs W zd.natAbs)⟩, ⟨g8 + 1, (decide (z2 < 0)), B8, (digs W z2.natAbs).length, d8, (digs W z2.natAbs)⟩, ⟨g8, (decide (z1 < 0)), A8, (digs W z1.natAbs).length, c8, (digs W z1.natAbs)⟩, ⟨w.heap.size + 1, nb, A5, m_b, c5, l_b⟩, ⟨w.heap.size, na, A3, m_a, c3, l_a⟩]) := Lib.hid ⟨HN35.out.1.below k40_5, HN35.out.2.below k40_5⟩
  clear hb40_0 k40_0 hb40_1 k40_1 hb40_2 k40_2 hb40_3 k40_3 hb40_4 k40_4 hb40_5 k40_5 x36a x36b x36c x36d x37a x37b x37c x37d x38a x38b x38c x38d x39a x39b x39c x39d
  go_upto_region 16 with fail
  go_upto_region 16 with fail
  obtain ⟨x41a, x41b, x41c, x41d⟩ := (HN40.out.1.x (.tail _ (.tail _ (.tail _ (.tail _ (.tail _ (.tail _ (.head _)))))))).facts
  obtain ⟨x42a, x42b, x42c, x42d⟩ := (HN40.out.1.x (.tail _ (.tail _ (.tail _ (.tail _ (.head _)))))).facts
  go_wp2_with fail
  refine (Cmp_zk (HN40.out.1.s (.tail _ (.tail _ (.tail _ (.tail _ (.tail _ (.tail _ (.head _)))))))) (HN40.out.1.s (.tail _ (.tail _ (.tail _ (.tail _ (.head _)))))) (ival_digs z1) (ival_digs zd) F3.out).mono ?_
  rintro ex w43' ⟨rfl, hb43⟩
  have HN43 : Hid (Env w w43' [⟨g28, (decide (za < 0)), A28, (digs W za.natAbs).length, c28, (digs W za.natAbs)⟩, ⟨g19, (decide (za < 0)), A19, (digs W za.natAbs).length, c19, (digs W za.natAbs)⟩, ⟨g16, (decide (zdb < 0)), A25, (digs W zdb.natAbs).length, c25, (digs W zdb.natAbs)⟩, ⟨g11 + 1, (decide (zm < 0)), B11, (digs W zm.natAbs).length, d11, (digs W zm.natAbs)⟩, ⟨g11, (decide (zd < 0)), A11, (digs W zd.natAbs).length, c11, (digs W zd.natAbs)⟩, ⟨g8 + 1, (decide (z2 < 0)), B8, (digs W z2.natAbs).length, d8, (digs W z2.natAbs)⟩, ⟨g8, (decide (z1 < 0)), A8, (digs W z1.natAbs).length, c8, (digs W z1.natAbs)⟩, ⟨w.heap.size + 1, nb, A5, m_b, c5, l_b⟩, ⟨w.heap.size, na, A3, m_a, c3, l_a⟩] ∧ Old w43' [⟨g28, (decide (za < 0)), A28, (digs W za.natAbs).length, c28, (digs W za.natAbs)⟩, ⟨g19, (decide (za < 0)), A19, (digs W za.natAbs).length, c19, (digs W za.natAbs)⟩, ⟨g16, (decide (zdb < 0)), A25, (digs W zdb.natAbs).length, c25, (digs W zdb.natAbs)⟩, ⟨g11 + 1, (decide (zm < 0)), B11, (digs W zm.natAbs).length, d11, (digs W zm.natAbs)⟩, ⟨g11, (decide (zd < 0)), A11, (digs W zd.natAbs).length, c11, (digs W zd.natAbs)⟩, ⟨g8 + 1, (decide (z2 < 0)), B8, (digs W z2.natAbs).length, d8, (digs W z2.natAbs)⟩, ⟨g8, (decide (z1 < 0)), A8, (digs W z1.natAbs).length, c8, (digs W z1.natAbs)⟩, ⟨w.heap.size + 1, nb, A5, m_b, c5, l_b⟩, ⟨w.heap.size, na, A3, m_a, c3, l_a⟩]) := Lib.hid ⟨HN40.out.1.below hb43, HN40.out.2.below hb43⟩
  clear hb43 x41a x41b x41c x41d x42a x42b x42c x42d
  go_upto_region 17 with fail
  go_upto_region 17 with fail
  obtain ⟨x44a, x44b, x44c, x44d⟩ := (HN43.out.1.x (.tail _ (.tail _ (.tail _ (.tail _ (.tail _ (.head _))))))).facts
  obtain ⟨x45a, x45b, x45c, x45d⟩ := (HN43.out.1.x (.tail _ (.tail _ (.tail _ (.tail _ (.tail _ (.tail _ (.tail _ (.tail _ (.head _)))))))))).facts
  obtain ⟨x46a, x46b, x46c, x46d⟩ := (HN43.out.1.x (.tail _ (.tail _ (.tail _ (.tail _ (.tail _ (.tail _ (.tail _ (.head _))))))))).facts
  have hS47 := Lib.hid (fun w' (hb : Below w43'.heap.size w43' w') => (And.intro (And.intro ((HN43.out.1.below hb).x (.tail _ (.tail _ (.tail _ (.tail _ (.tail _ (.head _))))))).facts.1 ((HN43.out.1.below hb).x (.tail _ (.tail _ (.tail _ (.tail _ (.tail _ (.head _))))))).facts.2.1) (And.intro (And.intro ((HN43.out.1.below hb).x (.tail _ (.tail _ (.tail _ (.tail _ (.tail _ (.tail _ (.tail _ (.tail _ (.head _)))))))))).facts.1 ((HN43.out.1.below hb).x (.tail _ (.tail _ (.tail _ (.tail _ (.tail _ (.tail _ (.tail _ (.tail _ (.head _)))))))))).facts.2.1) (And.intro ((HN43.out.1.below hb).x (.tail _ (.tail _ (.tail _ (.tail _ (.tail _ (.tail _ (.tail _ (.head _))))))))).facts.1 ((HN43.out.1.below hb).x (.tail _ (.tail _ (.tail _ (.tail _ (.tail _ (.tail _ (.tail _ (.head _))))))))).facts.2.1))))
  have hV47_0 : Hid (∀ w', Below w43'.heap.size w43' w' → SlU w' w'.heap.size B8 (digs W z2.natAbs).length d8 (digs W z2.natAbs)) := Lib.hid (fun w' hb => SlU.to (HN43.out.1.s (.tail _ (.tail _ (.tail _ (.tail _ (.tail _ (.head _))))))) hb (Nat.le_refl _))
  have hV47_1 : Hid (∀ w', Below w43'.heap.size w43' w' → SlU w' w'.heap.size A3 m_a c3 l_a) := Lib.hid (fun w' hb => SlU.to (HN43.out.1.s (.tail _ (.tail _ (.tail _ (.tail _ (.tail _ (.tail _ (.tail _ (.tail _ (.head _)))))))))) hb (Nat.le_refl _))
  have hV47_2 : Hid (∀ w', Below w43'.heap.size w43' w' → SlU w' w'.heap.size A5 m_b c5 l_b) := Lib.hid (fun w' hb => SlU.to (HN43.out.1.s (.tail _ (.tail _ (.tail _ (.tail _ (.tail _ (.tail _ (.tail _ (.head _))))))))) hb (Nat.le_refl _))
  go_region_held3 (fun w' => (w'.cell? ⟨g8 + 1, 0, none⟩ = some (.bool (decide (z2 < 0))) ∧ w'.cell? ⟨g8 + 1, 1, none⟩ = some (.slice B8 (digs W z2.natAbs).length d8)) ∧ (w'.cell? ⟨w.heap.size, 0, none⟩ = some (.bool na) ∧ w'.cell? ⟨w.heap.size, 1, none⟩ = some (.slice A3 m_a c3)) ∧ (w'.cell? ⟨w.heap.size + 1, 0, none⟩ = some (.bool nb) ∧ w'.cell? ⟨w.heap.size + 1, 1, none⟩ = some (.slice A5 m_b c5)))
    (first | (go_keep; done) | exact hS47.out _ k47_2 | exact hS47.out _ k47_1 | exact hS47.out _ k47_0 | exact hS47.out _ (Below.refl w43'.heap.size w43').drew)
    (first
      | (go_at_call 42; (with_reducible refine (Sign_zk (hV47_0.out _ (Below.refl w43'.heap.size w43').drew) (ival_digs z2) GR.out).mono ?_); rintro e y47_0 ⟨rfl, hb47_0⟩; have k47_0 : Below w43'.heap.size w43' y47_0 := ((Below.refl w43'.heap.size w43').drew).trans (hb47_0.mono (Nat.le_refl _)))
      | (go_at_call 42; (with_reducible refine (Sign_zk (hV47_1.out _ k47_0) HI_a.out GA.out).mono ?_); rintro e y47_1 ⟨rfl, hb47_1⟩; have k47_1 : Below w43'.heap.size w43' y47_1 := (k47_0).trans (hb47_1.mono (k47_0).size))
      | (go_at_call 42; (with_reducible refine (Sign_zk (hV47_2.out _ k47_1) HI_b.out GB.out).mono ?_); rintro e y47_2 ⟨rfl, hb47_2⟩; have k47_2 : Below w43'.heap.size w43' y47_2 := (k47_1).trans (hb47_2.mono (k47_1).size)))
  have HN47 : Hid (Env w y47_2 [⟨g28, (decide (za < 0)), A28, (digs W za.natAbs).length, c28, (digs W za.natAbs)⟩, ⟨g19, (decide (za < 0)), A19, (digs W za.natAbs).length, c19, (digs W za.natAbs)⟩, ⟨g16, (decide (zdb < 0)), A25, (digs W zdb.natAbs).length, c25, (digs W zdb.natAbs)⟩, ⟨g11 + 1, (decide (zm < 0)), B11, (digs W zm.natAbs).length, d11, (digs W zm.natAbs)⟩, ⟨g11, (decide (zd < 0)), A11, (digs W zd.natAbs).length, c11, (digs W zd.natAbs)⟩, ⟨g8 + 1, (decide (z2 < 0)), B8, (digs W z2.natAbs).length, d8, (digs W z2.natAbs)⟩, ⟨g8, (decide (z1 < 0)), A8, (digs W z1.natAbs).length, c8, (digs W z1.natAbs)⟩, ⟨w.heap.size + 1, nb, A5, m_b, c5, l_b⟩, ⟨w.heap.size, na, A3, m_a, c3, l_a⟩] ∧ Old y47_2 [⟨g28, (decide (za < 0)), A28, (digs W za.natAbs).length, c28, (digs W za.natAbs)⟩, ⟨g19, (decide (za < 0)), A19, (digs W za.natAbs).length, c19, (digs W za.natAbs)⟩, ⟨g16, (decide (zdb < 0)), A25, (digs W zdb.natAbs).length, c25, (digs W zdb.natAbs)⟩, ⟨g11 + 1, (decide (zm < 0)), B11, (digs W zm.natAbs).length, d11, (digs W zm.natAbs)⟩, ⟨g11, (decide (zd < 0)), A11, (digs W zd.natAbs).length, c11, (digs W zd.natAbs)⟩, ⟨g8 + 1, (decide (z2 < 0)), B8, (digs W z2.natAbs).length, d8, (digs W z2.natAbs)⟩, ⟨g8, (decide (z1 < 0)), A8, (digs W z1.natAbs).length, c8, (digs W z1.natAbs)⟩, ⟨w.heap.size + 1, nb, A5, m_b, c5, l_b⟩, ⟨w.heap.size, na, A3, m_a, c3, l_a⟩]) := Lib.hid ⟨HN43.out.1.below k47_2, HN43.out.2.below k47_2⟩
  clear hb47_0 k47_0 hb47_1 k47_1 hb47_2 k47_2 x44a x44b x44c x44d x45a x45b x45c x45d x46a x46b x46c x46d
  go_wp2
  go_ret
  exact ⟨rfl, HN47.out.1.b⟩
end Go.Proofs.Ytggdmhkdmkldoaa

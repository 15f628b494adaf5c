import Derived.Test.YtggdmhkdmkldoaaEk
namespace Go.Proofs.Ytggdmhkdmkldoaa
open Go.RowKit Hb

set_option maxRecDepth 100000 in
set_option maxHeartbeats 8000000 in
theorem Shifts_nn (na nb : Bool) {Aa Ab : Option Addr} {la lb l_a l_b : List Nat} {n_a ca n_b cb m_a m_b : Nat} {w : World} {za zb k : Int} {j : Nat} (hsa : SlU w w.heap.size Aa n_a ca la) (hsb : SlU w w.heap.size Ab n_b cb lb)
    (HFew_a : Hid (∀ w, SlU w w.heap.size Aa n_a ca la → Calls Try.prog 31 #[.agg #[.bool na, .slice Aa n_a ca], .int .i64 60] w (FewQ w na l_a m_a))) (HFew_b : Hid (∀ w, SlU w w.heap.size Ab n_b cb lb → Calls Try.prog 31 #[.agg #[.bool nb, .slice Ab n_b cb], .int .i64 60] w (FewQ w nb l_b m_b)))
    (HM_a : Hid (l_a.length = m_a ∧ m_a ≤ 60 ∧ Dig W l_a)) (HM_b : Hid (l_b.length = m_b ∧ m_b ≤ 60 ∧ Dig W l_b)) (HI_a : Hid (ival na l_a = za)) (HI_b : Hid (ival nb l_b = zb)) (Ba : za.natAbs < 2 ^ (32 * 60)) (Bb : zb.natAbs < 2 ^ (32 * 60)) (hk : -9223372036854775808 ≤ k ∧ k ≤ 9223372036854775807) (hk0 : k < 0) (hR : (j : Int) = -(k + 1) % 900) (hc : Nat.gcd za.natAbs zb.natAbs ≠ 0) :
    Calls Try.prog 12 #[.agg #[.bool na, .slice Aa n_a ca], .agg #[.bool nb, .slice Ab n_b cb], .int .i64 k] w fun e w' => e = .returned (.bool true) ∧ Below w.heap.size w w' := by
  obtain ⟨hk1, hk2⟩ := hk
  have hj9 : j < 900 := by omega
  have Bx := up_bnd (J := 900) Ba (Nat.le_of_lt hj9)
  have B2 := two_bnd (J := 900) (Nat.le_of_lt hj9)
  have Bc := gcd_bnd Ba Bb
  have Bu := up_bnd (J := 3) Ba (Nat.le_refl 3)
  have Bv := up_bnd (J := 3) Bb (Nat.le_refl 3)
  have Bw := up_bnd (J := 3) Bc (Nat.le_refl 3)
  have T_za := Lib.hid (tooLong_lt _ (by decide) Ba)
  have T_zb := Lib.hid (tooLong_lt _ (by decide) Bb)
  have T_zx' := tooLong_lt _ (by decide) Bx
  have T_z2' := tooLong_lt _ (by decide) B2
  have T_zc' := tooLong_lt _ (by decide) Bc
  have T_zu' := tooLong_lt _ (by decide) Bu
  have T_zv' := tooLong_lt _ (by decide) Bv
  have T_zw' := tooLong_lt _ (by decide) Bw
  have T_zd' := tooLong_down T_za.out j
  have e2 := shZ_back za j
  have e7 := shZ_neg za j
  have e1 := shZ_up za j
  have e5 := dvD_pow za j
  have e11 := shZ_three za
  have e12 := shZ_three zb
  have e13 := gcd_three za zb
  have e14 := shZ_three (Nat.gcd za.natAbs zb.natAbs : Int)
  have e9 := gcd_tmod_left (x := za) (y := zb) rfl
  have hp0 : (2 : Int) ^ j ≠ 0 := Int.pow_ne_zero (by decide)
  obtain ⟨zc, hzc⟩ : ∃ z : Int, ((Nat.gcd za.natAbs zb.natAbs : Nat) : Int) = z := ⟨_, rfl⟩
  have hcz : zc = 0 ↔ Nat.gcd za.natAbs zb.natAbs = 0 := by omega
  have hcp : 0 ≤ zc := by omega
  rw [hzc] at e9 e13 e14 T_zc' T_zw'
  obtain ⟨z2, hz2⟩ : ∃ z : Int, (2 : Int) ^ j = z := ⟨_, rfl⟩
  have E3 := Lib.hid (show ∀ t : Int, t = 2 → t ^ ((j : Int)).toNat = z2 from fun t ht => by rw [ht, Int.toNat_natCast]; exact hz2)
  rw [hz2] at e2 e7 e1 e5 T_zx' T_z2' T_zd' hp0
  obtain ⟨zx, hzx⟩ : ∃ z : Int, za * z2 = z := ⟨_, rfl⟩
  rw [hzx] at e1 e2 T_zx'
  obtain ⟨zd, hzd⟩ : ∃ z : Int, za / z2 = z := ⟨_, rfl⟩
  rw [hzd] at e5 e7 T_zd'
  obtain ⟨zm, hzm⟩ : ∃ z : Int, dvM za z2 = z := ⟨_, rfl⟩
  obtain ⟨zu, hzu⟩ : ∃ z : Int, za * 2 ^ 3 = z := ⟨_, rfl⟩
  obtain ⟨zv, hzv⟩ : ∃ z : Int, zb * 2 ^ 3 = z := ⟨_, rfl⟩
  obtain ⟨zw, hzw⟩ : ∃ z : Int, zc * 2 ^ 3 = z := ⟨_, rfl⟩
  rw [hzu] at e11 e13 T_zu'
  rw [hzv] at e12 e13 T_zv'
  rw [hzw] at e13 e14 T_zw'
  obtain ⟨t2, ht2⟩ : ∃ t : Int, t = 2 := ⟨_, rfl⟩
  have HF2 := Lib.hid (fun w1 => from_two (o := t2) w1 ht2)
  have T_t2 := Lib.hid (show tooLong t2 = false by rw [ht2]; exact tooLong_lt 2 (by decide) (by decide))
  have T_zx := Lib.hid T_zx'
  have T_z2 := Lib.hid T_z2'
  have T_zc := Lib.hid T_zc'
  have T_zu := Lib.hid T_zu'
  have T_zv := Lib.hid T_zv'
  have T_zw := Lib.hid T_zw'
  have T_zd := Lib.hid T_zd'
  have E1 := Lib.hid e1
  have E2 := Lib.hid e2
  have E33 := Lib.hid (E3.out t2 ht2)
  have E4 := Lib.hid hzx
  have E5 := Lib.hid e5
  have E6 := Lib.hid hzm
  have E7 := Lib.hid e7
  have E8 := Lib.hid hzc
  have E11 := Lib.hid e11
  have E12 := Lib.hid e12
  have E13 := Lib.hid e13
  have E14 := Lib.hid e14
  have HP0 := Lib.hid hp0
  have hj0 : (0 : Int) ≤ (j : Int) := by omega
  have HJ2 := Lib.hid hj0
  have hj99 : (j : Int) < 900 := by omega
  have HJ := Lib.hid (show -9223372036854775808 ≤ (j : Int) ∧ -9223372036854775808 ≤ -(j : Int) by omega)
  have hd1 : decide (k < 0) = true := decide_eq_true hk0
  have hk3 : 0 ≤ -(k + 1) := by omega
  have hE1 : -(k + 1) % 900 = (j : Int) := hR.symm
  have hE2 : -(k + 1).tmod 900 = (j : Int) := by rw [show -(k + 1).tmod 900 = (-(k + 1)) % 900 by rw [← Int.neg_tmod]; exact Int.tmod_eq_emod_of_nonneg hk3]; exact hR.symm
  clear hR
  obtain ⟨sc, hsc⟩ : ∃ s, zc.sign = s := ⟨_, rfl⟩
  have hcne : zc ≠ 0 := fun e => hc (hcz.1 e)
  have hsc1 : sc = 1 := by rw [← hsc]; exact Int.sign_eq_one_of_pos (by omega)
  have hsc0 : (sc == 0) = false := beq_eq_false_iff_ne.2 (by omega)
  have hscp : decide ((0 : Int) < sc) = true := decide_eq_true (by omega)
  have GC := Lib.hid hsc
  have HC0 := Lib.hid hcne
  obtain ⟨zr, hzr⟩ : ∃ z, za.tmod zc = z := ⟨_, rfl⟩
  obtain ⟨zs, hzs⟩ : ∃ z, zb.tmod zc = z := ⟨_, rfl⟩
  obtain ⟨zqa, hzqa⟩ : ∃ z, za.tdiv zc = z := ⟨_, rfl⟩
  obtain ⟨zqb, hzqb⟩ : ∃ z, zb.tdiv zc = z := ⟨_, rfl⟩
  have GR := Lib.hid (show zr.sign = 0 by rw [← hzr, e9.1]; rfl)
  have GS := Lib.hid (show zs.sign = 0 by rw [← hzs, e9.2]; rfl)
  have ER := Lib.hid hzr
  have ES := Lib.hid hzs
  have EQ := Lib.hid hzqa
  have ET := Lib.hid hzqb
  clear hzr hzs hzqa hzqb hsc hcne hsc1
  clear Bx B2 Bc Bu Bv Bw T_zx' T_z2' T_zc' T_zu' T_zv' T_zw' T_zd' e2 e7 e1 e5 e11 e12 e13 e14 e9 hp0 hzc hcz hcp hz2 hzx hzd hzm hzu hzv hzw ht2 E3 Ba Bb hc hj9
  have K0 := Env.box (Env.nil w) (Old.nil w) (neg := na) hsa rfl
  have HN0 := Lib.hid (Env.box K0.1 K0.2 (neg := nb) hsb (g := w.heap.size + 1) (by simp))
  clear K0 hsa hsb
  go_enter Try.func12, Try.ntmps12
  go_wp2_with fail
  refine (awake_any _).mono ?_
  rintro ex w1 ⟨rfl, hb1⟩
  have HN1 : Hid (Env w w1 [⟨w.heap.size + 1, nb, Ab, n_b, cb, lb⟩, ⟨w.heap.size, na, Aa, n_a, ca, la⟩] ∧ Old w1 [⟨w.heap.size + 1, nb, Ab, n_b, cb, lb⟩, ⟨w.heap.size, na, Aa, n_a, ca, la⟩]) := Lib.hid ⟨HN0.out.1.below hb1, HN0.out.2.below hb1⟩
  clear hb1
  go_upto_region 2 with fail
  obtain ⟨x2a, x2b, x2c, x2d⟩ := (HN1.out.1.x (.tail _ (.head _))).facts
  go_wp2_with fail
  refine (HFew_a.out _ (HN1.out.1.s (.tail _ (.head _)))).mono ?_
  rintro ex w3' ⟨A3, c3, rfl, ho3, hb3⟩
  obtain ⟨y3a, y3b, y3c, y3d⟩ := ((HN1.out.1.below hb3).x (.tail _ (.head _))).facts
  have HN3 : Hid (Env w ((w3'.setCell ⟨w.heap.size, 0, none⟩ (.bool na)).setCell ⟨w.heap.size, 1, none⟩ (.slice A3 m_a c3)) [⟨w.heap.size + 1, nb, Ab, n_b, cb, lb⟩, ⟨w.heap.size, na, A3, m_a, c3, l_a⟩] ∧ Old ((w3'.setCell ⟨w.heap.size, 0, none⟩ (.bool na)).setCell ⟨w.heap.size, 1, none⟩ (.slice A3 m_a c3)) [⟨w.heap.size + 1, nb, Ab, n_b, cb, lb⟩, ⟨w.heap.size, na, A3, m_a, c3, l_a⟩]) := Lib.hid (Env.call_set HN1.out.1 HN1.out.2 hb3 ho3 HM_a.out.2.2 HM_a.out.1 1 rfl)
  clear ho3 hb3 x2a x2b x2c x2d
  go_upto_region 3 with fail
  generalize ((w3'.setCell ⟨w.heap.size, 0, none⟩ (.bool na)).setCell ⟨w.heap.size, 1, none⟩ (.slice A3 m_a c3)) = w3 at *
  clear y3a y3b y3c y3d
  go_upto_region 3 with fail
  obtain ⟨x4a, x4b, x4c, x4d⟩ := (HN3.out.1.x (.head _)).facts
  go_wp2_with fail
  refine (HFew_b.out _ (HN3.out.1.s (.head _))).mono ?_
  rintro ex w5' ⟨A5, c5, rfl, ho5, hb5⟩
  obtain ⟨y5a, y5b, y5c, y5d⟩ := ((HN3.out.1.below hb5).x (.head _)).facts
  have HN5 : Hid (Env w ((w5'.setCell ⟨w.heap.size + 1, 0, none⟩ (.bool nb)).setCell ⟨w.heap.size + 1, 1, none⟩ (.slice A5 m_b c5)) [⟨w.heap.size + 1, nb, A5, m_b, c5, l_b⟩, ⟨w.heap.size, na, A3, m_a, c3, l_a⟩] ∧ Old ((w5'.setCell ⟨w.heap.size + 1, 0, none⟩ (.bool nb)).setCell ⟨w.heap.size + 1, 1, none⟩ (.slice A5 m_b c5)) [⟨w.heap.size + 1, nb, A5, m_b, c5, l_b⟩, ⟨w.heap.size, na, A3, m_a, c3, l_a⟩]) := Lib.hid (Env.call_set HN3.out.1 HN3.out.2 hb5 ho5 HM_b.out.2.2 HM_b.out.1 0 rfl)
  clear ho5 hb5 x4a x4b x4c x4d
  go_upto_region 4 with fail
  generalize ((w5'.setCell ⟨w.heap.size + 1, 0, none⟩ (.bool nb)).setCell ⟨w.heap.size + 1, 1, none⟩ (.slice A5 m_b c5)) = w5 at *
  clear y5a y5b y5c y5d
  go_upto_region 7 with fail
  clear hk3 hk1 hk2 hd1 hE1 hk0 hE2
  go_upto_region 7 with fail
  obtain ⟨x6a, x6b, x6c, x6d⟩ := (HN5.out.1.x (.tail _ (.head _))).facts
  go_wp2_with fail
  refine (Shift_z (HN5.out.1.s (.tail _ (.head _))) (Nat.le_trans HM_a.out.2.1 (by decide)) HI_a.out HJ.out.1 E1.out T_za.out T_zx.out).mono ?_
  rintro ex w7' ⟨v, rfl, ⟨A7, c7, rfl, ho7⟩, hb7⟩
  have HN7 : Hid (Env w (w7'.alloc (.cells #[.bool (decide (zx < 0)), .slice A7 (digs W zx.natAbs).length c7] 24)) [⟨w7'.heap.size, (decide (zx < 0)), A7, (digs W zx.natAbs).length, c7, (digs W zx.natAbs)⟩, ⟨w.heap.size + 1, nb, A5, m_b, c5, l_b⟩, ⟨w.heap.size, na, A3, m_a, c3, l_a⟩] ∧ Old (w7'.alloc (.cells #[.bool (decide (zx < 0)), .slice A7 (digs W zx.natAbs).length c7] 24)) [⟨w7'.heap.size, (decide (zx < 0)), A7, (digs W zx.natAbs).length, c7, (digs W zx.natAbs)⟩, ⟨w.heap.size + 1, nb, A5, m_b, c5, l_b⟩, ⟨w.heap.size, na, A3, m_a, c3, l_a⟩]) := Lib.hid (Env.call_push HN5.out.1 HN5.out.2 hb7 ho7 (dig_digs (by decide) _) rfl)
  clear ho7 hb7 x6a x6b x6c x6d
  go_upto_region 8 with fail
  generalize (w7'.alloc (.cells #[.bool (decide (zx < 0)), .slice A7 (digs W zx.natAbs).length c7] 24)) = w7 at *
  generalize w7'.heap.size = g7 at *
  go_upto_region 8 with fail
  obtain ⟨x8a, x8b, x8c, x8d⟩ := (HN7.out.1.x (.head _)).facts
  go_wp2_with fail
  refine (Shift_z (HN7.out.1.s (.head _)) (Nat.le_trans (not_too_len T_zx.out) (by decide)) (ival_digs zx) HJ.out.2 E2.out T_zx.out T_za.out).mono ?_
  rintro ex w9' ⟨v, rfl, ⟨A9, c9, rfl, ho9⟩, hb9⟩
  have HN9 : Hid (Env w (w9'.alloc (.cells #[.bool (decide (za < 0)), .slice A9 (digs W za.natAbs).length c9] 24)) [⟨w9'.heap.size, (decide (za < 0)), A9, (digs W za.natAbs).length, c9, (digs W za.natAbs)⟩, ⟨g7, (decide (zx < 0)), A7, (digs W zx.natAbs).length, c7, (digs W zx.natAbs)⟩, ⟨w.heap.size + 1, nb, A5, m_b, c5, l_b⟩, ⟨w.heap.size, na, A3, m_a, c3, l_a⟩] ∧ Old (w9'.alloc (.cells #[.bool (decide (za < 0)), .slice A9 (digs W za.natAbs).length c9] 24)) [⟨w9'.heap.size, (decide (za < 0)), A9, (digs W za.natAbs).length, c9, (digs W za.natAbs)⟩, ⟨g7, (decide (zx < 0)), A7, (digs W zx.natAbs).length, c7, (digs W zx.natAbs)⟩, ⟨w.heap.size + 1, nb, A5, m_b, c5, l_b⟩, ⟨w.heap.size, na, A3, m_a, c3, l_a⟩]) := Lib.hid (Env.call_push HN7.out.1 HN7.out.2 hb9 ho9 (dig_digs (by decide) _) rfl)
  clear ho9 hb9 x8a x8b x8c x8d
  go_upto_region 9 with fail
  generalize (w9'.alloc (.cells #[.bool (decide (za < 0)), .slice A9 (digs W za.natAbs).length c9] 24)) = w9 at *
  generalize w9'.heap.size = g9 at *
  go_upto_region 9 with fail
  obtain ⟨x10a, x10b, x10c, x10d⟩ := (HN9.out.1.x (.head _)).facts
  obtain ⟨x11a, x11b, x11c, x11d⟩ := (HN9.out.1.x (.tail _ (.tail _ (.tail _ (.head _))))).facts
  go_wp2_with fail
  refine (same_z (HN9.out.1.s (.head _)) (HN9.out.1.s (.tail _ (.tail _ (.tail _ (.head _))))) (ival_digs za) HI_a.out).mono ?_
  rintro ex w12' ⟨rfl, hb12⟩
  have HN12 : Hid (Env w w12' [⟨g9, (decide (za < 0)), A9, (digs W za.natAbs).length, c9, (digs W za.natAbs)⟩, ⟨g7, (decide (zx < 0)), A7, (digs W zx.natAbs).length, c7, (digs W zx.natAbs)⟩, ⟨w.heap.size + 1, nb, A5, m_b, c5, l_b⟩, ⟨w.heap.size, na, A3, m_a, c3, l_a⟩] ∧ Old w12' [⟨g9, (decide (za < 0)), A9, (digs W za.natAbs).length, c9, (digs W za.natAbs)⟩, ⟨g7, (decide (zx < 0)), A7, (digs W zx.natAbs).length, c7, (digs W zx.natAbs)⟩, ⟨w.heap.size + 1, nb, A5, m_b, c5, l_b⟩, ⟨w.heap.size, na, A3, m_a, c3, l_a⟩]) := Lib.hid ⟨HN9.out.1.below hb12, HN9.out.2.below hb12⟩
  clear hb12 x10a x10b x10c x10d x11a x11b x11c x11d
  go_upto_region 10 with fail
  go_upto_region 10 with fail
  go_wp2_with fail
  refine (HF2.out _).mono ?_
  rintro ex w13' ⟨v, rfl, ⟨A13, c13, rfl, ho13⟩, hb13⟩
  have HN13 : Hid (Env w w13' [⟨g9, (decide (za < 0)), A9, (digs W za.natAbs).length, c9, (digs W za.natAbs)⟩, ⟨g7, (decide (zx < 0)), A7, (digs W zx.natAbs).length, c7, (digs W zx.natAbs)⟩, ⟨w.heap.size + 1, nb, A5, m_b, c5, l_b⟩, ⟨w.heap.size, na, A3, m_a, c3, l_a⟩] ∧ Old w13' [⟨g9, (decide (za < 0)), A9, (digs W za.natAbs).length, c9, (digs W za.natAbs)⟩, ⟨g7, (decide (zx < 0)), A7, (digs W zx.natAbs).length, c7, (digs W zx.natAbs)⟩, ⟨w.heap.size + 1, nb, A5, m_b, c5, l_b⟩, ⟨w.heap.size, na, A3, m_a, c3, l_a⟩]) := Lib.hid ⟨HN12.out.1.below hb13, HN12.out.2.below hb13⟩
  clear hb13
  go_wp2_with fail
  refine (Pow_own (j : Int) ho13 T_t2.out E33.out (pw_ok HJ2.out E33.out T_z2.out)).mono ?_
  rintro ex w14' ⟨v, rfl, ⟨A14, c14, rfl, ho14⟩, hb14⟩
  have HN14 : Hid (Env w (w14'.alloc (.cells #[.bool (decide (z2 < 0)), .slice A14 (digs W z2.natAbs).length c14] 24)) [⟨w14'.heap.size, (decide (z2 < 0)), A14, (digs W z2.natAbs).length, c14, (digs W z2.natAbs)⟩, ⟨g9, (decide (za < 0)), A9, (digs W za.natAbs).length, c9, (digs W za.natAbs)⟩, ⟨g7, (decide (zx < 0)), A7, (digs W zx.natAbs).length, c7, (digs W zx.natAbs)⟩, ⟨w.heap.size + 1, nb, A5, m_b, c5, l_b⟩, ⟨w.heap.size, na, A3, m_a, c3, l_a⟩] ∧ Old (w14'.alloc (.cells #[.bool (decide (z2 < 0)), .slice A14 (digs W z2.natAbs).length c14] 24)) [⟨w14'.heap.size, (decide (z2 < 0)), A14, (digs W z2.natAbs).length, c14, (digs W z2.natAbs)⟩, ⟨g9, (decide (za < 0)), A9, (digs W za.natAbs).length, c9, (digs W za.natAbs)⟩, ⟨g7, (decide (zx < 0)), A7, (digs W zx.natAbs).length, c7, (digs W zx.natAbs)⟩, ⟨w.heap.size + 1, nb, A5, m_b, c5, l_b⟩, ⟨w.heap.size, na, A3, m_a, c3, l_a⟩]) := Lib.hid (Env.call_push HN13.out.1 HN13.out.2 hb14 ho14 (dig_digs (by decide) _) rfl)
  clear ho14 hb14 ho13
  go_upto_region 11 with fail
  generalize (w14'.alloc (.cells #[.bool (decide (z2 < 0)), .slice A14 (digs W z2.natAbs).length c14] 24)) = w14 at *
  generalize w14'.heap.size = g14 at *
  go_upto_region 11 with fail
  obtain ⟨x15a, x15b, x15c, x15d⟩ := (HN14.out.1.x (.tail _ (.tail _ (.tail _ (.tail _ (.head _)))))).facts
  obtain ⟨x16a, x16b, x16c, x16d⟩ := (HN14.out.1.x (.head _)).facts
  go_wp2_with fail
  refine (Mul_z (HN14.out.1.s (.tail _ (.tail _ (.tail _ (.tail _ (.head _)))))) (HN14.out.1.s (.head _)) (Nat.le_trans HM_a.out.2.1 (by decide)) (Nat.le_trans (not_too_len T_z2.out) (by decide)) HI_a.out (ival_digs z2) E4.out T_za.out T_z2.out T_zx.out).mono ?_
  rintro ex w17' ⟨v, rfl, ⟨A17, c17, rfl, ho17⟩, hb17⟩
  have HN17 : Hid (Env w (w17'.alloc (.cells #[.bool (decide (zx < 0)), .slice A17 (digs W zx.natAbs).length c17] 24)) [⟨w17'.heap.size, (decide (zx < 0)), A17, (digs W zx.natAbs).length, c17, (digs W zx.natAbs)⟩, ⟨g14, (decide (z2 < 0)), A14, (digs W z2.natAbs).length, c14, (digs W z2.natAbs)⟩, ⟨g9, (decide (za < 0)), A9, (digs W za.natAbs).length, c9, (digs W za.natAbs)⟩, ⟨g7, (decide (zx < 0)), A7, (digs W zx.natAbs).length, c7, (digs W zx.natAbs)⟩, ⟨w.heap.size + 1, nb, A5, m_b, c5, l_b⟩, ⟨w.heap.size, na, A3, m_a, c3, l_a⟩] ∧ Old (w17'.alloc (.cells #[.bool (decide (zx < 0)), .slice A17 (digs W zx.natAbs).length c17] 24)) [⟨w17'.heap.size, (decide (zx < 0)), A17, (digs W zx.natAbs).length, c17, (digs W zx.natAbs)⟩, ⟨g14, (decide (z2 < 0)), A14, (digs W z2.natAbs).length, c14, (digs W z2.natAbs)⟩, ⟨g9, (decide (za < 0)), A9, (digs W za.natAbs).length, c9, (digs W za.natAbs)⟩, ⟨g7, (decide (zx < 0)), A7, (digs W zx.natAbs).length, c7, (digs W zx.natAbs)⟩, ⟨w.heap.size + 1, nb, A5, m_b, c5, l_b⟩, ⟨w.heap.size, na, A3, m_a, c3, l_a⟩]) := Lib.hid (Env.call_push HN14.out.1 HN14.out.2 hb17 ho17 (dig_digs (by decide) _) rfl)
  clear ho17 hb17 x15a x15b x15c x15d x16a x16b x16c x16d
  go_upto_region 12 with fail
  generalize (w17'.alloc (.cells #[.bool (decide (zx < 0)), .slice A17 (digs W zx.natAbs).length c17] 24)) = w17 at *
  generalize w17'.heap.size = g17 at *
  go_upto_region 12 with fail
  obtain ⟨x18a, x18b, x18c, x18d⟩ := (HN17.out.1.x (.head _)).facts
  obtain ⟨x19a, x19b, x19c, x19d⟩ := (HN17.out.1.x (.tail _ (.tail _ (.tail _ (.head _))))).facts
  go_wp2_with fail
  refine (same_z (HN17.out.1.s (.head _)) (HN17.out.1.s (.tail _ (.tail _ (.tail _ (.head _))))) (ival_digs zx) (ival_digs zx)).mono ?_
  rintro ex w20' ⟨rfl, hb20⟩
  have HN20 : Hid (Env w w20' [⟨g17, (decide (zx < 0)), A17, (digs W zx.natAbs).length, c17, (digs W zx.natAbs)⟩, ⟨g14, (decide (z2 < 0)), A14, (digs W z2.natAbs).length, c14, (digs W z2.natAbs)⟩, ⟨g9, (decide (za < 0)), A9, (digs W za.natAbs).length, c9, (digs W za.natAbs)⟩, ⟨g7, (decide (zx < 0)), A7, (digs W zx.natAbs).length, c7, (digs W zx.natAbs)⟩, ⟨w.heap.size + 1, nb, A5, m_b, c5, l_b⟩, ⟨w.heap.size, na, A3, m_a, c3, l_a⟩] ∧ Old w20' [⟨g17, (decide (zx < 0)), A17, (digs W zx.natAbs).length, c17, (digs W zx.natAbs)⟩, ⟨g14, (decide (z2 < 0)), A14, (digs W z2.natAbs).length, c14, (digs W z2.natAbs)⟩, ⟨g9, (decide (za < 0)), A9, (digs W za.natAbs).length, c9, (digs W za.natAbs)⟩, ⟨g7, (decide (zx < 0)), A7, (digs W zx.natAbs).length, c7, (digs W zx.natAbs)⟩, ⟨w.heap.size + 1, nb, A5, m_b, c5, l_b⟩, ⟨w.heap.size, na, A3, m_a, c3, l_a⟩]) := Lib.hid ⟨HN17.out.1.below hb20, HN17.out.2.below hb20⟩
  clear hb20 x18a x18b x18c x18d x19a x19b x19c x19d
  go_upto_region 13 with fail
  go_upto_region 13 with fail
  obtain ⟨x21a, x21b, x21c, x21d⟩ := (HN20.out.1.x (.tail _ (.tail _ (.tail _ (.tail _ (.tail _ (.head _))))))).facts
  obtain ⟨x22a, x22b, x22c, x22d⟩ := (HN20.out.1.x (.tail _ (.head _))).facts
  go_wp2_with fail
  refine (DivMod_z (HN20.out.1.s (.tail _ (.tail _ (.tail _ (.tail _ (.tail _ (.head _))))))) (HN20.out.1.s (.tail _ (.head _))) (Nat.le_trans HM_a.out.2.1 (by decide)) (Nat.le_trans (not_too_len T_z2.out) (by decide)) HI_a.out (ival_digs z2) HP0.out E5.out E6.out T_za.out T_z2.out T_zd.out).mono ?_
  rintro ex w23' ⟨v, v', rfl, ⟨A23, c23, rfl, ho23⟩, ⟨B23, d23, rfl, hp23⟩, hb23⟩
  have HN23 : Hid (Env w ((w23'.alloc (.cells #[.bool (decide (zd < 0)), .slice A23 (digs W zd.natAbs).length c23] 24)).alloc (.cells #[.bool (decide (zm < 0)), .slice B23 (digs W zm.natAbs).length d23] 24)) [⟨w23'.heap.size + 1, (decide (zm < 0)), B23, (digs W zm.natAbs).length, d23, (digs W zm.natAbs)⟩, ⟨w23'.heap.size, (decide (zd < 0)), A23, (digs W zd.natAbs).length, c23, (digs W zd.natAbs)⟩, ⟨g17, (decide (zx < 0)), A17, (digs W zx.natAbs).length, c17, (digs W zx.natAbs)⟩, ⟨g14, (decide (z2 < 0)), A14, (digs W z2.natAbs).length, c14, (digs W z2.natAbs)⟩, ⟨g9, (decide (za < 0)), A9, (digs W za.natAbs).length, c9, (digs W za.natAbs)⟩, ⟨g7, (decide (zx < 0)), A7, (digs W zx.natAbs).length, c7, (digs W zx.natAbs)⟩, ⟨w.heap.size + 1, nb, A5, m_b, c5, l_b⟩, ⟨w.heap.size, na, A3, m_a, c3, l_a⟩] ∧ Old ((w23'.alloc (.cells #[.bool (decide (zd < 0)), .slice A23 (digs W zd.natAbs).length c23] 24)).alloc (.cells #[.bool (decide (zm < 0)), .slice B23 (digs W zm.natAbs).length d23] 24)) [⟨w23'.heap.size + 1, (decide (zm < 0)), B23, (digs W zm.natAbs).length, d23, (digs W zm.natAbs)⟩, ⟨w23'.heap.size, (decide (zd < 0)), A23, (digs W zd.natAbs).length, c23, (digs W zd.natAbs)⟩, ⟨g17, (decide (zx < 0)), A17, (digs W zx.natAbs).length, c17, (digs W zx.natAbs)⟩, ⟨g14, (decide (z2 < 0)), A14, (digs W z2.natAbs).length, c14, (digs W z2.natAbs)⟩, ⟨g9, (decide (za < 0)), A9, (digs W za.natAbs).length, c9, (digs W za.natAbs)⟩, ⟨g7, (decide (zx < 0)), A7, (digs W zx.natAbs).length, c7, (digs W zx.natAbs)⟩, ⟨w.heap.size + 1, nb, A5, m_b, c5, l_b⟩, ⟨w.heap.size, na, A3, m_a, c3, l_a⟩]) := Lib.hid (Env.call_push2 HN20.out.1 HN20.out.2 hb23 ho23 (dig_digs (by decide) _) rfl hp23 (dig_digs (by decide) _) rfl)
  clear ho23 hp23 hb23 x21a x21b x21c x21d x22a x22b x22c x22d
  go_upto_region 14 with fail
  generalize ((w23'.alloc (.cells #[.bool (decide (zd < 0)), .slice A23 (digs W zd.natAbs).length c23] 24)).alloc (.cells #[.bool (decide (zm < 0)), .slice B23 (digs W zm.natAbs).length d23] 24)) = w23 at *
  generalize w23'.heap.size = g23 at *
  go_upto_region 14 with fail
  obtain ⟨x24a, x24b, x24c, x24d⟩ := (HN23.out.1.x (.tail _ (.tail _ (.tail _ (.tail _ (.tail _ (.tail _ (.tail _ (.head _))))))))).facts
  go_wp2_with fail
  refine (Shift_z (HN23.out.1.s (.tail _ (.tail _ (.tail _ (.tail _ (.tail _ (.tail _ (.tail _ (.head _))))))))) (Nat.le_trans HM_a.out.2.1 (by decide)) HI_a.out HJ.out.2 E7.out T_za.out T_zd.out).mono ?_
  rintro ex w25' ⟨v, rfl, ⟨A25, c25, rfl, ho25⟩, hb25⟩
  have HN25 : Hid (Env w (w25'.alloc (.cells #[.bool (decide (zd < 0)), .slice A25 (digs W zd.natAbs).length c25] 24)) [⟨w25'.heap.size, (decide (zd < 0)), A25, (digs W zd.natAbs).length, c25, (digs W zd.natAbs)⟩, ⟨g23 + 1, (decide (zm < 0)), B23, (digs W zm.natAbs).length, d23, (digs W zm.natAbs)⟩, ⟨g23, (decide (zd < 0)), A23, (digs W zd.natAbs).length, c23, (digs W zd.natAbs)⟩, ⟨g17, (decide (zx < 0)), A17, (digs W zx.natAbs).length, c17, (digs W zx.natAbs)⟩, ⟨g14, (decide (z2 < 0)), A14, (digs W z2.natAbs).length, c14, (digs W z2.natAbs)⟩, ⟨g9, (decide (za < 0)), A9, (digs W za.natAbs).length, c9, (digs W za.natAbs)⟩, ⟨g7, (decide (zx < 0)), A7, (digs W zx.natAbs).length, c7, (digs W zx.natAbs)⟩, ⟨w.heap.size + 1, nb, A5, m_b, c5, l_b⟩, ⟨w.heap.size, na, A3, m_a, c3, l_a⟩] ∧ Old (w25'.alloc (.cells #[.bool (decide (zd < 0)), .slice A25 (digs W zd.natAbs).length c25] 24)) [⟨w25'.heap.size, (decide (zd < 0)), A25, (digs W zd.natAbs).length, c25, (digs W zd.natAbs)⟩, ⟨g23 + 1, (decide (zm < 0)), B23, (digs W zm.natAbs).length, d23, (digs W zm.natAbs)⟩, ⟨g23, (decide (zd < 0)), A23, (digs W zd.natAbs).length, c23, (digs W zd.natAbs)⟩, ⟨g17, (decide (zx < 0)), A17, (digs W zx.natAbs).length, c17, (digs W zx.natAbs)⟩, ⟨g14, (decide (z2 < 0)), A14, (digs W z2.natAbs).length, c14, (digs W z2.natAbs)⟩, ⟨g9, (decide (za < 0)), A9, (digs W za.natAbs).length, c9, (digs W za.natAbs)⟩, ⟨g7, (decide (zx < 0)), A7, (digs W zx.natAbs).length, c7, (digs W zx.natAbs)⟩, ⟨w.heap.size + 1, nb, A5, m_b, c5, l_b⟩, ⟨w.heap.size, na, A3, m_a, c3, l_a⟩]) := Lib.hid (Env.call_push HN23.out.1 HN23.out.2 hb25 ho25 (dig_digs (by decide) _) rfl)
  clear ho25 hb25 x24a x24b x24c x24d
  go_upto_region 15 with fail
  generalize (w25'.alloc (.cells #[.bool (decide (zd < 0)), .slice A25 (digs W zd.natAbs).length c25] 24)) = w25 at *
  generalize w25'.heap.size = g25 at *
  go_upto_region 15 with fail
  obtain ⟨x26a, x26b, x26c, x26d⟩ := (HN25.out.1.x (.tail _ (.tail _ (.head _)))).facts
  obtain ⟨x27a, x27b, x27c, x27d⟩ := (HN25.out.1.x (.head _)).facts
  go_wp2_with fail
  refine (same_z (HN25.out.1.s (.tail _ (.tail _ (.head _)))) (HN25.out.1.s (.head _)) (ival_digs zd) (ival_digs zd)).mono ?_
  rintro ex w28' ⟨rfl, hb28⟩
  have HN28 : Hid (Env w w28' [⟨g25, (decide (zd < 0)), A25, (digs W zd.natAbs).length, c25, (digs W zd.natAbs)⟩, ⟨g23 + 1, (decide (zm < 0)), B23, (digs W zm.natAbs).length, d23, (digs W zm.natAbs)⟩, ⟨g23, (decide (zd < 0)), A23, (digs W zd.natAbs).length, c23, (digs W zd.natAbs)⟩, ⟨g17, (decide (zx < 0)), A17, (digs W zx.natAbs).length, c17, (digs W zx.natAbs)⟩, ⟨g14, (decide (z2 < 0)), A14, (digs W z2.natAbs).length, c14, (digs W z2.natAbs)⟩, ⟨g9, (decide (za < 0)), A9, (digs W za.natAbs).length, c9, (digs W za.natAbs)⟩, ⟨g7, (decide (zx < 0)), A7, (digs W zx.natAbs).length, c7, (digs W zx.natAbs)⟩, ⟨w.heap.size + 1, nb, A5, m_b, c5, l_b⟩, ⟨w.heap.size, na, A3, m_a, c3, l_a⟩] ∧ Old w28' [⟨g25, (decide (zd < 0)), A25, (digs W zd.natAbs).length, c25, (digs W zd.natAbs)⟩, ⟨g23 + 1, (decide (zm < 0)), B23, (digs W zm.natAbs).length, d23, (digs W zm.natAbs)⟩, ⟨g23, (decide (zd < 0)), A23, (digs W zd.natAbs).length, c23, (digs W zd.natAbs)⟩, ⟨g17, (decide (zx < 0)), A17, (digs W zx.natAbs).length, c17, (digs W zx.natAbs)⟩, ⟨g14, (decide (z2 < 0)), A14, (digs W z2.natAbs).length, c14, (digs W z2.natAbs)⟩, ⟨g9, (decide (za < 0)), A9, (digs W za.natAbs).length, c9, (digs W za.natAbs)⟩, ⟨g7, (decide (zx < 0)), A7, (digs W zx.natAbs).length, c7, (digs W zx.natAbs)⟩, ⟨w.heap.size + 1, nb, A5, m_b, c5, l_b⟩, ⟨w.heap.size, na, A3, m_a, c3, l_a⟩]) := Lib.hid ⟨HN25.out.1.below hb28, HN25.out.2.below hb28⟩
  clear hb28 x26a x26b x26c x26d x27a x27b x27c x27d
  go_upto_region 16 with fail
  go_upto_region 16 with fail
  obtain ⟨x29a, x29b, x29c, x29d⟩ := (HN28.out.1.x (.tail _ (.tail _ (.tail _ (.tail _ (.tail _ (.tail _ (.tail _ (.tail _ (.head _)))))))))).facts
  obtain ⟨x30a, x30b, x30c, x30d⟩ := (HN28.out.1.x (.tail _ (.tail _ (.tail _ (.tail _ (.tail _ (.tail _ (.tail _ (.head _))))))))).facts
  go_wp2_with fail
  refine (Gcd_z (HN28.out.1.s (.tail _ (.tail _ (.tail _ (.tail _ (.tail _ (.tail _ (.tail _ (.tail _ (.head _)))))))))) (HN28.out.1.s (.tail _ (.tail _ (.tail _ (.tail _ (.tail _ (.tail _ (.tail _ (.head _))))))))) (Nat.le_trans HM_a.out.2.1 (by decide)) (Nat.le_trans HM_b.out.2.1 (by decide)) HI_a.out HI_b.out E8.out T_za.out T_zb.out).mono ?_
  rintro ex w31' ⟨v, rfl, ⟨A31, c31, rfl, ho31⟩, hb31⟩
  have HN31 : Hid (Env w (w31'.alloc (.cells #[.bool (decide (zc < 0)), .slice A31 (digs W zc.natAbs).length c31] 24)) [⟨w31'.heap.size, (decide (zc < 0)), A31, (digs W zc.natAbs).length, c31, (digs W zc.natAbs)⟩, ⟨g25, (decide (zd < 0)), A25, (digs W zd.natAbs).length, c25, (digs W zd.natAbs)⟩, ⟨g23 + 1, (decide (zm < 0)), B23, (digs W zm.natAbs).length, d23, (digs W zm.natAbs)⟩, ⟨g23, (decide (zd < 0)), A23, (digs W zd.natAbs).length, c23, (digs W zd.natAbs)⟩, ⟨g17, (decide (zx < 0)), A17, (digs W zx.natAbs).length, c17, (digs W zx.natAbs)⟩, ⟨g14, (decide (z2 < 0)), A14, (digs W z2.natAbs).length, c14, (digs W z2.natAbs)⟩, ⟨g9, (decide (za < 0)), A9, (digs W za.natAbs).length, c9, (digs W za.natAbs)⟩, ⟨g7, (decide (zx < 0)), A7, (digs W zx.natAbs).length, c7, (digs W zx.natAbs)⟩, ⟨w.heap.size + 1, nb, A5, m_b, c5, l_b⟩, ⟨w.heap.size, na, A3, m_a, c3, l_a⟩] ∧ Old (w31'.alloc (.cells #[.bool (decide (zc < 0)), .slice A31 (digs W zc.natAbs).length c31] 24)) [⟨w31'.heap.size, (decide (zc < 0)), A31, (digs W zc.natAbs).length, c31, (digs W zc.natAbs)⟩, ⟨g25, (decide (zd < 0)), A25, (digs W zd.natAbs).length, c25, (digs W zd.natAbs)⟩, ⟨g23 + 1, (decide (zm < 0)), B23, (digs W zm.natAbs).length, d23, (digs W zm.natAbs)⟩, ⟨g23, (decide (zd < 0)), A23, (digs W zd.natAbs).length, c23, (digs W zd.natAbs)⟩, ⟨g17, (decide (zx < 0)), A17, (digs W zx.natAbs).length, c17, (digs W zx.natAbs)⟩, ⟨g14, (decide (z2 < 0)), A14, (digs W z2.natAbs).length, c14, (digs W z2.natAbs)⟩, ⟨g9, (decide (za < 0)), A9, (digs W za.natAbs).length, c9, (digs W za.natAbs)⟩, ⟨g7, (decide (zx < 0)), A7, (digs W zx.natAbs).length, c7, (digs W zx.natAbs)⟩, ⟨w.heap.size + 1, nb, A5, m_b, c5, l_b⟩, ⟨w.heap.size, na, A3, m_a, c3, l_a⟩]) := Lib.hid (Env.call_push HN28.out.1 HN28.out.2 hb31 ho31 (dig_digs (by decide) _) rfl)
  clear ho31 hb31 x29a x29b x29c x29d x30a x30b x30c x30d
  go_upto_region 17 with fail
  generalize (w31'.alloc (.cells #[.bool (decide (zc < 0)), .slice A31 (digs W zc.natAbs).length c31] 24)) = w31 at *
  generalize w31'.heap.size = g31 at *
  go_upto_region 17 with fail
  obtain ⟨x32a, x32b, x32c, x32d⟩ := (HN31.out.1.x (.head _)).facts
  go_wp2_with fail
  refine (Sign_zk (HN31.out.1.s (.head _)) (ival_digs zc) GC.out).mono ?_
  rintro ex w33' ⟨rfl, hb33⟩
  have HN33 : Hid (Env w w33' [⟨g31, (decide (zc < 0)), A31, (digs W zc.natAbs).length, c31, (digs W zc.natAbs)⟩, ⟨g25, (decide (zd < 0)), A25, (digs W zd.natAbs).length, c25, (digs W zd.natAbs)⟩, ⟨g23 + 1, (decide (zm < 0)), B23, (digs W zm.natAbs).length, d23, (digs W zm.natAbs)⟩, ⟨g23, (decide (zd < 0)), A23, (digs W zd.natAbs).length, c23, (digs W zd.natAbs)⟩, ⟨g17, (decide (zx < 0)), A17, (digs W zx.natAbs).length, c17, (digs W zx.natAbs)⟩, ⟨g14, (decide (z2 < 0)), A14, (digs W z2.natAbs).length, c14, (digs W z2.natAbs)⟩, ⟨g9, (decide (za < 0)), A9, (digs W za.natAbs).length, c9, (digs W za.natAbs)⟩, ⟨g7, (decide (zx < 0)), A7, (digs W zx.natAbs).length, c7, (digs W zx.natAbs)⟩, ⟨w.heap.size + 1, nb, A5, m_b, c5, l_b⟩, ⟨w.heap.size, na, A3, m_a, c3, l_a⟩] ∧ Old w33' [⟨g31, (decide (zc < 0)), A31, (digs W zc.natAbs).length, c31, (digs W zc.natAbs)⟩, ⟨g25, (decide (zd < 0)), A25, (digs W zd.natAbs).length, c25, (digs W zd.natAbs)⟩, ⟨g23 + 1, (decide (zm < 0)), B23, (digs W zm.natAbs).length, d23, (digs W zm.natAbs)⟩, ⟨g23, (decide (zd < 0)), A23, (digs W zd.natAbs).length, c23, (digs W zd.natAbs)⟩, ⟨g17, (decide (zx < 0)), A17, (digs W zx.natAbs).length, c17, (digs W zx.natAbs)⟩, ⟨g14, (decide (z2 < 0)), A14, (digs W z2.natAbs).length, c14, (digs W z2.natAbs)⟩, ⟨g9, (decide (za < 0)), A9, (digs W za.natAbs).length, c9, (digs W za.natAbs)⟩, ⟨g7, (decide (zx < 0)), A7, (digs W zx.natAbs).length, c7, (digs W zx.natAbs)⟩, ⟨w.heap.size + 1, nb, A5, m_b, c5, l_b⟩, ⟨w.heap.size, na, A3, m_a, c3, l_a⟩]) := Lib.hid ⟨HN31.out.1.below hb33, HN31.out.2.below hb33⟩
  clear hb33 x32a x32b x32c x32d
  go_upto_region 19 with fail
  go_upto_region 19 with fail
  obtain ⟨x34a, x34b, x34c, x34d⟩ := (HN33.out.1.x (.tail _ (.tail _ (.tail _ (.tail _ (.tail _ (.tail _ (.tail _ (.tail _ (.tail _ (.head _))))))))))).facts
  obtain ⟨x35a, x35b, x35c, x35d⟩ := (HN33.out.1.x (.head _)).facts
  go_wp2_with fail
  refine (QuoRem_z (HN33.out.1.s (.tail _ (.tail _ (.tail _ (.tail _ (.tail _ (.tail _ (.tail _ (.tail _ (.tail _ (.head _))))))))))) (HN33.out.1.s (.head _)) (Nat.le_trans HM_a.out.2.1 (by decide)) (Nat.le_trans (not_too_len T_zc.out) (by decide)) HI_a.out (ival_digs zc) HC0.out EQ.out ER.out T_za.out T_zc.out).mono ?_
  rintro ex w36' ⟨v, v', rfl, ⟨A36, c36, rfl, ho36⟩, ⟨B36, d36, rfl, hp36⟩, hb36⟩
  have HN36 : Hid (Env w ((w36'.alloc (.cells #[.bool (decide (zqa < 0)), .slice A36 (digs W zqa.natAbs).length c36] 24)).alloc (.cells #[.bool (decide (zr < 0)), .slice B36 (digs W zr.natAbs).length d36] 24)) [⟨w36'.heap.size + 1, (decide (zr < 0)), B36, (digs W zr.natAbs).length, d36, (digs W zr.natAbs)⟩, ⟨w36'.heap.size, (decide (zqa < 0)), A36, (digs W zqa.natAbs).length, c36, (digs W zqa.natAbs)⟩, ⟨g31, (decide (zc < 0)), A31, (digs W zc.natAbs).length, c31, (digs W zc.natAbs)⟩, ⟨g25, (decide (zd < 0)), A25, (digs W zd.natAbs).length, c25, (digs W zd.natAbs)⟩, ⟨g23 + 1, (decide (zm < 0)), B23, (digs W zm.natAbs).length, d23, (digs W zm.natAbs)⟩, ⟨g23, (decide (zd < 0)), A23, (digs W zd.natAbs).length, c23, (digs W zd.natAbs)⟩, ⟨g17, (decide (zx < 0)), A17, (digs W zx.natAbs).length, c17, (digs W zx.natAbs)⟩, ⟨g14, (decide (z2 < 0)), A14, (digs W z2.natAbs).length, c14, (digs W z2.natAbs)⟩, ⟨g9, (decide (za < 0)), A9, (digs W za.natAbs).length, c9, (digs W za.natAbs)⟩, ⟨g7, (decide (zx < 0)), A7, (digs W zx.natAbs).length, c7, (digs W zx.natAbs)⟩, ⟨w.heap.size + 1, nb, A5, m_b, c5, l_b⟩, ⟨w.heap.size, na, A3, m_a, c3, l_a⟩] ∧ Old ((w36'.alloc (.cells #[.bool (decide (zqa < 0)), .slice A36 (digs W zqa.natAbs).length c36] 24)).alloc (.cells #[.bool (decide (zr < 0)), .slice B36 (digs W zr.natAbs).length d36] 24)) [⟨w36'.heap.size + 1, (decide (zr < 0)), B36, (digs W zr.natAbs).length, d36, (digs W zr.natAbs)⟩, ⟨w36'.heap.size, (decide (zqa < 0)), A36, (digs W zqa.natAbs).length, c36, (digs W zqa.natAbs)⟩, ⟨g31, (decide (zc < 0)), A31, (digs W zc.natAbs).length, c31, (digs W zc.natAbs)⟩, ⟨g25, (decide (zd < 0)), A25, (digs W zd.natAbs).length, c25, (digs W zd.natAbs)⟩, ⟨g23 + 1, (decide (zm < 0)), B23, (digs W zm.natAbs).length, d23, (digs W zm.natAbs)⟩, ⟨g23, (decide (zd < 0)), A23, (digs W zd.natAbs).length, c23, (digs W zd.natAbs)⟩, ⟨g17, (decide (zx < 0)), A17, (digs W zx.natAbs).length, c17, (digs W zx.natAbs)⟩, ⟨g14, (decide (z2 < 0)), A14, (digs W z2.natAbs).length, c14, (digs W z2.natAbs)⟩, ⟨g9, (decide (za < 0)), A9, (digs W za.natAbs).length, c9, (digs W za.natAbs)⟩, ⟨g7, (decide (zx < 0)), A7, (digs W zx.natAbs).length, c7, (digs W zx.natAbs)⟩, ⟨w.heap.size + 1, nb, A5, m_b, c5, l_b⟩, ⟨w.heap.size, na, A3, m_a, c3, l_a⟩]) := Lib.hid (Env.call_push2 HN33.out.1 HN33.out.2 hb36 ho36 (dig_digs (by decide) _) rfl hp36 (dig_digs (by decide) _) rfl)
  clear ho36 hp36 hb36 x34a x34b x34c x34d x35a x35b x35c x35d
  go_upto_region 20 with fail
  generalize ((w36'.alloc (.cells #[.bool (decide (zqa < 0)), .slice A36 (digs W zqa.natAbs).length c36] 24)).alloc (.cells #[.bool (decide (zr < 0)), .slice B36 (digs W zr.natAbs).length d36] 24)) = w36 at *
  generalize w36'.heap.size = g36 at *
  go_upto_region 20 with fail
  obtain ⟨x37a, x37b, x37c, x37d⟩ := (HN36.out.1.x (.tail _ (.tail _ (.tail _ (.tail _ (.tail _ (.tail _ (.tail _ (.tail _ (.tail _ (.tail _ (.head _)))))))))))).facts
  obtain ⟨x38a, x38b, x38c, x38d⟩ := (HN36.out.1.x (.tail _ (.tail _ (.head _)))).facts
  go_wp2_with fail
  refine (QuoRem_z (HN36.out.1.s (.tail _ (.tail _ (.tail _ (.tail _ (.tail _ (.tail _ (.tail _ (.tail _ (.tail _ (.tail _ (.head _)))))))))))) (HN36.out.1.s (.tail _ (.tail _ (.head _)))) (Nat.le_trans HM_b.out.2.1 (by decide)) (Nat.le_trans (not_too_len T_zc.out) (by decide)) HI_b.out (ival_digs zc) HC0.out ET.out ES.out T_zb.out T_zc.out).mono ?_
  rintro ex w39' ⟨v, v', rfl, ⟨A39, c39, rfl, ho39⟩, ⟨B39, d39, rfl, hp39⟩, hb39⟩
  have HN39 : Hid (Env w ((w39'.alloc (.cells #[.bool (decide (zqb < 0)), .slice A39 (digs W zqb.natAbs).length c39] 24)).alloc (.cells #[.bool (decide (zs < 0)), .slice B39 (digs W zs.natAbs).length d39] 24)) [⟨w39'.heap.size + 1, (decide (zs < 0)), B39, (digs W zs.natAbs).length, d39, (digs W zs.natAbs)⟩, ⟨w39'.heap.size, (decide (zqb < 0)), A39, (digs W zqb.natAbs).length, c39, (digs W zqb.natAbs)⟩, ⟨g36 + 1, (decide (zr < 0)), B36, (digs W zr.natAbs).length, d36, (digs W zr.natAbs)⟩, ⟨g36, (decide (zqa < 0)), A36, (digs W zqa.natAbs).length, c36, (digs W zqa.natAbs)⟩, ⟨g31, (decide (zc < 0)), A31, (digs W zc.natAbs).length, c31, (digs W zc.natAbs)⟩, ⟨g25, (decide (zd < 0)), A25, (digs W zd.natAbs).length, c25, (digs W zd.natAbs)⟩, ⟨g23 + 1, (decide (zm < 0)), B23, (digs W zm.natAbs).length, d23, (digs W zm.natAbs)⟩, ⟨g23, (decide (zd < 0)), A23, (digs W zd.natAbs).length, c23, (digs W zd.natAbs)⟩, ⟨g17, (decide (zx < 0)), A17, (digs W zx.natAbs).length, c17, (digs W zx.natAbs)⟩, ⟨g14, (decide (z2 < 0)), A14, (digs W z2.natAbs).length, c14, (digs W z2.natAbs)⟩, ⟨g9, (decide (za < 0)), A9, (digs W za.natAbs).length, c9, (digs W za.natAbs)⟩, ⟨g7, (decide (zx < 0)), A7, (digs W zx.natAbs).length, c7, (digs W zx.natAbs)⟩, ⟨w.heap.size + 1, nb, A5, m_b, c5, l_b⟩, ⟨w.heap.size, na, A3, m_a, c3, l_a⟩] ∧ Old ((w39'.alloc (.cells #[.bool (decide (zqb < 0)), .slice A39 (digs W zqb.natAbs).length c39] 24)).alloc (.cells #[.bool (decide (zs < 0)), .slice B39 (digs W zs.natAbs).length d39] 24)) [⟨w39'.heap.size + 1, (decide (zs < 0)), B39, (digs W zs.natAbs).length, d39, (digs W zs.natAbs)⟩, ⟨w39'.heap.size, (decide (zqb < 0)), A39, (digs W zqb.natAbs).length, c39, (digs W zqb.natAbs)⟩, ⟨g36 + 1, (decide (zr < 0)), B36, (digs W zr.natAbs).length, d36, (digs W zr.natAbs)⟩, ⟨g36, (decide (zqa < 0)), A36, (digs W zqa.natAbs).length, c36, (digs W zqa.natAbs)⟩, ⟨g31, (decide (zc < 0)), A31, (digs W zc.natAbs).length, c31, (digs W zc.natAbs)⟩, ⟨g25, (decide (zd < 0)), A25, (digs W zd.natAbs).length, c25, (digs W zd.natAbs)⟩, ⟨g23 + 1, (decide (zm < 0)), B23, (digs W zm.natAbs).length, d23, (digs W zm.natAbs)⟩, ⟨g23, (decide (zd < 0)), A23, (digs W zd.natAbs).length, c23, (digs W zd.natAbs)⟩, ⟨g17, (decide (zx < 0)), A17, (digs W zx.natAbs).length, c17, (digs W zx.natAbs)⟩, ⟨g14, (decide (z2 < 0)), A14, (digs W z2.natAbs).length, c14, (digs W z2.natAbs)⟩, ⟨g9, (decide (za < 0)), A9, (digs W za.natAbs).length, c9, (digs W za.natAbs)⟩, ⟨g7, (decide (zx < 0)), A7, (digs W zx.natAbs).length, c7, (digs W zx.natAbs)⟩, ⟨w.heap.size + 1, nb, A5, m_b, c5, l_b⟩, ⟨w.heap.size, na, A3, m_a, c3, l_a⟩]) := Lib.hid (Env.call_push2 HN36.out.1 HN36.out.2 hb39 ho39 (dig_digs (by decide) _) rfl hp39 (dig_digs (by decide) _) rfl)
  clear ho39 hp39 hb39 x37a x37b x37c x37d x38a x38b x38c x38d
  go_upto_region 21 with fail
  generalize ((w39'.alloc (.cells #[.bool (decide (zqb < 0)), .slice A39 (digs W zqb.natAbs).length c39] 24)).alloc (.cells #[.bool (decide (zs < 0)), .slice B39 (digs W zs.natAbs).length d39] 24)) = w39 at *
  generalize w39'.heap.size = g39 at *
  go_upto_region 21 with fail
  obtain ⟨x40a, x40b, x40c, x40d⟩ := (HN39.out.1.x (.tail _ (.tail _ (.tail _ (.tail _ (.tail _ (.tail _ (.tail _ (.tail _ (.tail _ (.tail _ (.tail _ (.tail _ (.tail _ (.head _))))))))))))))).facts
  go_wp2_with fail
  refine (Shift_z (HN39.out.1.s (.tail _ (.tail _ (.tail _ (.tail _ (.tail _ (.tail _ (.tail _ (.tail _ (.tail _ (.tail _ (.tail _ (.tail _ (.tail _ (.head _))))))))))))))) (Nat.le_trans HM_a.out.2.1 (by decide)) HI_a.out (by decide) E11.out T_za.out T_zu.out).mono ?_
  rintro ex w41' ⟨v, rfl, ⟨A41, c41, rfl, ho41⟩, hb41⟩
  have HN41 : Hid (Env w (w41'.alloc (.cells #[.bool (decide (zu < 0)), .slice A41 (digs W zu.natAbs).length c41] 24)) [⟨w41'.heap.size, (decide (zu < 0)), A41, (digs W zu.natAbs).length, c41, (digs W zu.natAbs)⟩, ⟨g39 + 1, (decide (zs < 0)), B39, (digs W zs.natAbs).length, d39, (digs W zs.natAbs)⟩, ⟨g39, (decide (zqb < 0)), A39, (digs W zqb.natAbs).length, c39, (digs W zqb.natAbs)⟩, ⟨g36 + 1, (decide (zr < 0)), B36, (digs W zr.natAbs).length, d36, (digs W zr.natAbs)⟩, ⟨g36, (decide (zqa < 0)), A36, (digs W zqa.natAbs).length, c36, (digs W zqa.natAbs)⟩, ⟨g31, (decide (zc < 0)), A31, (digs W zc.natAbs).length, c31, (digs W zc.natAbs)⟩, ⟨g25, (decide (zd < 0)), A25, (digs W zd.natAbs).length, c25, (digs W zd.natAbs)⟩, ⟨g23 + 1, (decide (zm < 0)), B23, (digs W zm.natAbs).length, d23, (digs W zm.natAbs)⟩, ⟨g23, (decide (zd < 0)), A23, (digs W zd.natAbs).length, c23, (digs W zd.natAbs)⟩, ⟨g17, (decide (zx < 0)), A17, (digs W zx.natAbs).length, c17, (digs W zx.natAbs)⟩, ⟨g14, (decide (z2 < 0)), A14, (digs W z2.natAbs).length, c14, (digs W z2.natAbs)⟩, ⟨g9, (decide (za < 0)), A9, (digs W za.natAbs).length, c9, (digs W za.natAbs)⟩, ⟨g7, (decide (zx < 0)), A7, (digs W zx.natAbs).length, c7, (digs W zx.natAbs)⟩, ⟨w.heap.size + 1, nb, A5, m_b, c5, l_b⟩, ⟨w.heap.size, na, A3, m_a, c3, l_a⟩] ∧ Old (w41'.alloc (.cells #[.bool (decide (zu < 0)), .slice A41 (digs W zu.natAbs).length c41] 24)) [⟨w41'.heap.size, (decide (zu < 0)), A41, (digs W zu.natAbs).length, c41, (digs W zu.natAbs)⟩, ⟨g39 + 1, (decide (zs < 0)), B39, (digs W zs.natAbs).length, d39, (digs W zs.natAbs)⟩, ⟨g39, (decide (zqb < 0)), A39, (digs W zqb.natAbs).length, c39, (digs W zqb.natAbs)⟩, ⟨g36 + 1, (decide (zr < 0)), B36, (digs W zr.natAbs).length, d36, (digs W zr.natAbs)⟩, ⟨g36, (decide (zqa < 0)), A36, (digs W zqa.natAbs).length, c36, (digs W zqa.natAbs)⟩, ⟨g31, (decide (zc < 0)), A31, (digs W zc.natAbs).length, c31, (digs W zc.natAbs)⟩, ⟨g25, (decide (zd < 0)), A25, (digs W zd.natAbs).length, c25, (digs W zd.natAbs)⟩, ⟨g23 + 1, (decide (zm < 0)), B23, (digs W zm.natAbs).length, d23, (digs W zm.natAbs)⟩, ⟨g23, (decide (zd < 0)), A23, (digs W zd.natAbs).length, c23, (digs W zd.natAbs)⟩, ⟨g17, (decide (zx < 0)), A17, (digs W zx.natAbs).length, c17, (digs W zx.natAbs)⟩, ⟨g14, (decide (z2 < 0)), A14, (digs W z2.natAbs).length, c14, (digs W z2.natAbs)⟩, ⟨g9, (decide (za < 0)), A9, (digs W za.natAbs).length, c9, (digs W za.natAbs)⟩, ⟨g7, (decide (zx < 0)), A7, (digs W zx.natAbs).length, c7, (digs W zx.natAbs)⟩, ⟨w.heap.size + 1, nb, A5, m_b, c5, l_b⟩, ⟨w.heap.size, na, A3, m_a, c3, l_a⟩]) := Lib.hid (Env.call_push HN39.out.1 HN39.out.2 hb41 ho41 (dig_digs (by decide) _) rfl)
  clear ho41 hb41 x40a x40b x40c x40d
  go_upto_region 22 with fail
  generalize (w41'.alloc (.cells #[.bool (decide (zu < 0)), .slice A41 (digs W zu.natAbs).length c41] 24)) = w41 at *
  generalize w41'.heap.size = g41 at *
  go_upto_region 22 with fail
  obtain ⟨x42a, x42b, x42c, x42d⟩ := (HN41.out.1.x (.tail _ (.tail _ (.tail _ (.tail _ (.tail _ (.tail _ (.tail _ (.tail _ (.tail _ (.tail _ (.tail _ (.tail _ (.tail _ (.head _))))))))))))))).facts
  go_wp2_with fail
  refine (Shift_z (HN41.out.1.s (.tail _ (.tail _ (.tail _ (.tail _ (.tail _ (.tail _ (.tail _ (.tail _ (.tail _ (.tail _ (.tail _ (.tail _ (.tail _ (.head _))))))))))))))) (Nat.le_trans HM_b.out.2.1 (by decide)) HI_b.out (by decide) E12.out T_zb.out T_zv.out).mono ?_
  rintro ex w43' ⟨v, rfl, ⟨A43, c43, rfl, ho43⟩, hb43⟩
  have HN43 : Hid (Env w (w43'.alloc (.cells #[.bool (decide (zv < 0)), .slice A43 (digs W zv.natAbs).length c43] 24)) [⟨w43'.heap.size, (decide (zv < 0)), A43, (digs W zv.natAbs).length, c43, (digs W zv.natAbs)⟩, ⟨g41, (decide (zu < 0)), A41, (digs W zu.natAbs).length, c41, (digs W zu.natAbs)⟩, ⟨g39 + 1, (decide (zs < 0)), B39, (digs W zs.natAbs).length, d39, (digs W zs.natAbs)⟩, ⟨g39, (decide (zqb < 0)), A39, (digs W zqb.natAbs).length, c39, (digs W zqb.natAbs)⟩, ⟨g36 + 1, (decide (zr < 0)), B36, (digs W zr.natAbs).length, d36, (digs W zr.natAbs)⟩, ⟨g36, (decide (zqa < 0)), A36, (digs W zqa.natAbs).length, c36, (digs W zqa.natAbs)⟩, ⟨g31, (decide (zc < 0)), A31, (digs W zc.natAbs).length, c31, (digs W zc.natAbs)⟩, ⟨g25, (decide (zd < 0)), A25, (digs W zd.natAbs).length, c25, (digs W zd.natAbs)⟩, ⟨g23 + 1, (decide (zm < 0)), B23, (digs W zm.natAbs).length, d23, (digs W zm.natAbs)⟩, ⟨g23, (decide (zd < 0)), A23, (digs W zd.natAbs).length, c23, (digs W zd.natAbs)⟩, ⟨g17, (decide (zx < 0)), A17, (digs W zx.natAbs).length, c17, (digs W zx.natAbs)⟩, ⟨g14, (decide (z2 < 0)), A14, (digs W z2.natAbs).length, c14, (digs W z2.natAbs)⟩, ⟨g9, (decide (za < 0)), A9, (digs W za.natAbs).length, c9, (digs W za.natAbs)⟩, ⟨g7, (decide (zx < 0)), A7, (digs W zx.natAbs).length, c7, (digs W zx.natAbs)⟩, ⟨w.heap.size + 1, nb, A5, m_b, c5, l_b⟩, ⟨w.heap.size, na, A3, m_a, c3, l_a⟩] ∧ Old (w43'.alloc (.cells #[.bool (decide (zv < 0)), .slice A43 (digs W zv.natAbs).length c43] 24)) [⟨w43'.heap.size, (decide (zv < 0)), A43, (digs W zv.natAbs).length, c43, (digs W zv.natAbs)⟩, ⟨g41, (decide (zu < 0)), A41, (digs W zu.natAbs).length, c41, (digs W zu.natAbs)⟩, ⟨g39 + 1, (decide (zs < 0)), B39, (digs W zs.natAbs).length, d39, (digs W zs.natAbs)⟩, ⟨g39, (decide (zqb < 0)), A39, (digs W zqb.natAbs).length, c39, (digs W zqb.natAbs)⟩, ⟨g36 + 1, (decide (zr < 0)), B36, (digs W zr.natAbs).length, d36, (digs W zr.natAbs)⟩, ⟨g36, (decide (zqa < 0)), A36, (digs W zqa.natAbs).length, c36, (digs W zqa.natAbs)⟩, ⟨g31, (decide (zc < 0)), A31, (digs W zc.natAbs).length, c31, (digs W zc.natAbs)⟩, ⟨g25, (decide (zd < 0)), A25, (digs W zd.natAbs).length, c25, (digs W zd.natAbs)⟩, ⟨g23 + 1, (decide (zm < 0)), B23, (digs W zm.natAbs).length, d23, (digs W zm.natAbs)⟩, ⟨g23, (decide (zd < 0)), A23, (digs W zd.natAbs).length, c23, (digs W zd.natAbs)⟩, ⟨g17, (decide (zx < 0)), A17, (digs W zx.natAbs).length, c17, (digs W zx.natAbs)⟩, ⟨g14, (decide (z2 < 0)), A14, (digs W z2.natAbs).length, c14, (digs W z2.natAbs)⟩, ⟨g9, (decide (za < 0)), A9, (digs W za.natAbs).length, c9, (digs W za.natAbs)⟩, ⟨g7, (decide (zx < 0)), A7, (digs W zx.natAbs).length, c7, (digs W zx.natAbs)⟩, ⟨w.heap.size + 1, nb, A5, m_b, c5, l_b⟩, ⟨w.heap.size, na, A3, m_a, c3, l_a⟩]) := Lib.hid (Env.call_push HN41.out.1 HN41.out.2 hb43 ho43 (dig_digs (by decide) _) rfl)
  clear ho43 hb43 x42a x42b x42c x42d
  go_upto_region 23 with fail
  generalize (w43'.alloc (.cells #[.bool (decide (zv < 0)), .slice A43 (digs W zv.natAbs).length c43] 24)) = w43 at *
  generalize w43'.heap.size = g43 at *
  go_upto_region 23 with fail
  obtain ⟨x44a, x44b, x44c, x44d⟩ := (HN43.out.1.x (.tail _ (.head _))).facts
  obtain ⟨x45a, x45b, x45c, x45d⟩ := (HN43.out.1.x (.head _)).facts
  go_wp2_with fail
  refine (Gcd_z (HN43.out.1.s (.tail _ (.head _))) (HN43.out.1.s (.head _)) (Nat.le_trans (not_too_len T_zu.out) (by decide)) (Nat.le_trans (not_too_len T_zv.out) (by decide)) (ival_digs zu) (ival_digs zv) E13.out T_zu.out T_zv.out).mono ?_
  rintro ex w46' ⟨v, rfl, ⟨A46, c46, rfl, ho46⟩, hb46⟩
  have HN46 : Hid (Env w (w46'.alloc (.cells #[.bool (decide (zw < 0)), .slice A46 (digs W zw.natAbs).length c46] 24)) [⟨w46'.heap.size, (decide (zw < 0)), A46, (digs W zw.natAbs).length, c46, (digs W zw.natAbs)⟩, ⟨g43, (decide (zv < 0)), A43, (digs W zv.natAbs).length, c43, (digs W zv.natAbs)⟩, ⟨g41, (decide (zu < 0)), A41, (digs W zu.natAbs).length, c41, (digs W zu.natAbs)⟩, ⟨g39 + 1, (decide (zs < 0)), B39, (digs W zs.natAbs).length, d39, (digs W zs.natAbs)⟩, ⟨g39, (decide (zqb < 0)), A39, (digs W zqb.natAbs).length, c39, (digs W zqb.natAbs)⟩, ⟨g36 + 1, (decide (zr < 0)), B36, (digs W zr.natAbs).length, d36, (digs W zr.natAbs)⟩, ⟨g36, (decide (zqa < 0)), A36, (digs W zqa.natAbs).length, c36, (digs W zqa.natAbs)⟩, ⟨g31, (decide (zc < 0)), A31, (digs W zc.natAbs).length, c31, (digs W zc.natAbs)⟩, ⟨g25, (decide (zd < 0)), A25, (digs W zd.natAbs).length, c25, (digs W zd.natAbs)⟩, ⟨g23 + 1, (decide (zm < 0)), B23, (digs W zm.natAbs).length, d23, (digs W zm.natAbs)⟩, ⟨g23, (decide (zd < 0)), A23, (digs W zd.natAbs).length, c23, (digs W zd.natAbs)⟩, ⟨g17, (decide (zx < 0)), A17, (digs W zx.natAbs).length, c17, (digs W zx.natAbs)⟩, ⟨g14, (decide (z2 < 0)), A14, (digs W z2.natAbs).length, c14, (digs W z2.natAbs)⟩, ⟨g9, (decide (za < 0)), A9, (digs W za.natAbs).length, c9, (digs W za.natAbs)⟩, ⟨g7, (decide (zx < 0)), A7, (digs W zx.natAbs).length, c7, (digs W zx.natAbs)⟩, ⟨w.heap.size + 1, nb, A5, m_b, c5, l_b⟩, ⟨w.heap.size, na, A3, m_a, c3, l_a⟩] ∧ Old (w46'.alloc (.cells #[.bool (decide (zw < 0)), .slice A46 (digs W zw.natAbs).length c46] 24)) [⟨w46'.heap.size, (decide (zw < 0)), A46, (digs W zw.natAbs).length, c46, (digs W zw.natAbs)⟩, ⟨g43, (decide (zv < 0)), A43, (digs W zv.natAbs).length, c43, (digs W zv.natAbs)⟩, ⟨g41, (decide (zu < 0)), A41, (digs W zu.natAbs).length, c41, (digs W zu.natAbs)⟩, ⟨g39 + 1, (decide (zs < 0)), B39, (digs W zs.natAbs).length, d39, (digs W zs.natAbs)⟩, ⟨g39, (decide (zqb < 0)), A39, (digs W zqb.natAbs).length, c39, (digs W zqb.natAbs)⟩, ⟨g36 + 1, (decide (zr < 0)), B36, (digs W zr.natAbs).length, d36, (digs W zr.natAbs)⟩, ⟨g36, (decide (zqa < 0)), A36, (digs W zqa.natAbs).length, c36, (digs W zqa.natAbs)⟩, ⟨g31, (decide (zc < 0)), A31, (digs W zc.natAbs).length, c31, (digs W zc.natAbs)⟩, ⟨g25, (decide (zd < 0)), A25, (digs W zd.natAbs).length, c25, (digs W zd.natAbs)⟩, ⟨g23 + 1, (decide (zm < 0)), B23, (digs W zm.natAbs).length, d23, (digs W zm.natAbs)⟩, ⟨g23, (decide (zd < 0)), A23, (digs W zd.natAbs).length, c23, (digs W zd.natAbs)⟩, ⟨g17, (decide (zx < 0)), A17, (digs W zx.natAbs).length, c17, (digs W zx.natAbs)⟩, ⟨g14, (decide (z2 < 0)), A14, (digs W z2.natAbs).length, c14, (digs W z2.natAbs)⟩, ⟨g9, (decide (za < 0)), A9, (digs W za.natAbs).length, c9, (digs W za.natAbs)⟩, ⟨g7, (decide (zx < 0)), A7, (digs W zx.natAbs).length, c7, (digs W zx.natAbs)⟩, ⟨w.heap.size + 1, nb, A5, m_b, c5, l_b⟩, ⟨w.heap.size, na, A3, m_a, c3, l_a⟩]) := Lib.hid (Env.call_push HN43.out.1 HN43.out.2 hb46 ho46 (dig_digs (by decide) _) rfl)
  clear ho46 hb46 x44a x44b x44c x44d x45a x45b x45c x45d
  go_upto_region 24 with fail
  generalize (w46'.alloc (.cells #[.bool (decide (zw < 0)), .slice A46 (digs W zw.natAbs).length c46] 24)) = w46 at *
  generalize w46'.heap.size = g46 at *
  go_upto_region 24 with fail
  obtain ⟨x47a, x47b, x47c, x47d⟩ := (HN46.out.1.x (.tail _ (.tail _ (.tail _ (.tail _ (.tail _ (.tail _ (.tail _ (.head _))))))))).facts
  go_wp2_with fail
  refine (Shift_z (HN46.out.1.s (.tail _ (.tail _ (.tail _ (.tail _ (.tail _ (.tail _ (.tail _ (.head _))))))))) (Nat.le_trans (not_too_len T_zc.out) (by decide)) (ival_digs zc) (by decide) E14.out T_zc.out T_zw.out).mono ?_
  rintro ex w48' ⟨v, rfl, ⟨A48, c48, rfl, ho48⟩, hb48⟩
  have HN48 : Hid (Env w (w48'.alloc (.cells #[.bool (decide (zw < 0)), .slice A48 (digs W zw.natAbs).length c48] 24)) [⟨w48'.heap.size, (decide (zw < 0)), A48, (digs W zw.natAbs).length, c48, (digs W zw.natAbs)⟩, ⟨g46, (decide (zw < 0)), A46, (digs W zw.natAbs).length, c46, (digs W zw.natAbs)⟩, ⟨g43, (decide (zv < 0)), A43, (digs W zv.natAbs).length, c43, (digs W zv.natAbs)⟩, ⟨g41, (decide (zu < 0)), A41, (digs W zu.natAbs).length, c41, (digs W zu.natAbs)⟩, ⟨g39 + 1, (decide (zs < 0)), B39, (digs W zs.natAbs).length, d39, (digs W zs.natAbs)⟩, ⟨g39, (decide (zqb < 0)), A39, (digs W zqb.natAbs).length, c39, (digs W zqb.natAbs)⟩, ⟨g36 + 1, (decide (zr < 0)), B36, (digs W zr.natAbs).length, d36, (digs W zr.natAbs)⟩, ⟨g36, (decide (zqa < 0)), A36, (digs W zqa.natAbs).length, c36, (digs W zqa.natAbs)⟩, ⟨g31, (decide (zc < 0)), A31, (digs W zc.natAbs).length, c31, (digs W zc.natAbs)⟩, ⟨g25, (decide (zd < 0)), A25, (digs W zd.natAbs).length, c25, (digs W zd.natAbs)⟩, ⟨g23 + 1, (decide (zm < 0)), B23, (digs W zm.natAbs).length, d23, (digs W zm.natAbs)⟩, ⟨g23, (decide (zd < 0)), A23, (digs W zd.natAbs).length, c23, (digs W zd.natAbs)⟩, ⟨g17, (decide (zx < 0)), A17, (digs W zx.natAbs).length, c17, (digs W zx.natAbs)⟩, ⟨g14, (decide (z2 < 0)), A14, (digs W z2.natAbs).length, c14, (digs W z2.natAbs)⟩, ⟨g9, (decide (za < 0)), A9, (digs W za.natAbs).length, c9, (digs W za.natAbs)⟩, ⟨g7, (decide (zx < 0)), A7, (digs W zx.natAbs).length, c7, (digs W zx.natAbs)⟩, ⟨w.heap.size + 1, nb, A5, m_b, c5, l_b⟩, ⟨w.heap.size, na, A3, m_a, c3, l_a⟩] ∧ Old (w48'.alloc (.cells #[.bool (decide (zw < 0)), .slice A48 (digs W zw.natAbs).length c48] 24)) [⟨w48'.heap.size, (decide (zw < 0)), A48, (digs W zw.natAbs).length, c48, (digs W zw.natAbs)⟩, ⟨g46, (decide (zw < 0)), A46, (digs W zw.natAbs).length, c46, (digs W zw.natAbs)⟩, ⟨g43, (decide (zv < 0)), A43, (digs W zv.natAbs).length, c43, (digs W zv.natAbs)⟩, ⟨g41, (decide (zu < 0)), A41, (digs W zu.natAbs).length, c41, (digs W zu.natAbs)⟩, ⟨g39 + 1, (decide (zs < 0)), B39, (digs W zs.natAbs).length, d39, (digs W zs.natAbs)⟩, ⟨g39, (decide (zqb < 0)), A39, (digs W zqb.natAbs).length, c39, (digs W zqb.natAbs)⟩, ⟨g36 + 1, (decide (zr < 0)), B36, (digs W zr.natAbs).length, d36, (digs W zr.natAbs)⟩, ⟨g36, (decide (zqa < 0)), A36, (digs W zqa.natAbs).length, c36, (digs W zqa.natAbs)⟩, ⟨g31, (decide (zc < 0)), A31, (digs W zc.natAbs).length, c31, (digs W zc.natAbs)⟩, ⟨g25, (decide (zd < 0)), A25, (digs W zd.natAbs).length, c25, (digs W zd.natAbs)⟩, ⟨g23 + 1, (decide (zm < 0)), B23, (digs W zm.natAbs).length, d23, (digs W zm.natAbs)⟩, ⟨g23, (decide (zd < 0)), A23, (digs W zd.natAbs).length, c23, (digs W zd.natAbs)⟩, ⟨g17, (decide (zx < 0)), A17, (digs W zx.natAbs).length, c17, (digs W zx.natAbs)⟩, ⟨g14, (decide (z2 < 0)), A14, (digs W z2.natAbs).length, c14, (digs W z2.natAbs)⟩, ⟨g9, (decide (za < 0)), A9, (digs W za.natAbs).length, c9, (digs W za.natAbs)⟩, ⟨g7, (decide (zx < 0)), A7, (digs W zx.natAbs).length, c7, (digs W zx.natAbs)⟩, ⟨w.heap.size + 1, nb, A5, m_b, c5, l_b⟩, ⟨w.heap.size, na, A3, m_a, c3, l_a⟩]) := Lib.hid (Env.call_push HN46.out.1 HN46.out.2 hb48 ho48 (dig_digs (by decide) _) rfl)
  clear ho48 hb48 x47a x47b x47c x47d
  go_upto_region 25 with fail
  generalize (w48'.alloc (.cells #[.bool (decide (zw < 0)), .slice A48 (digs W zw.natAbs).length c48] 24)) = w48 at *
  generalize w48'.heap.size = g48 at *
  go_upto_region 25 with fail
  obtain ⟨x49a, x49b, x49c, x49d⟩ := (HN48.out.1.x (.tail _ (.head _))).facts
  obtain ⟨x50a, x50b, x50c, x50d⟩ := (HN48.out.1.x (.head _)).facts
  go_wp2_with fail
  refine (same_z (HN48.out.1.s (.tail _ (.head _))) (HN48.out.1.s (.head _)) (ival_digs zw) (ival_digs zw)).mono ?_
  rintro ex w51' ⟨rfl, hb51⟩
  have HN51 : Hid (Env w w51' [⟨g48, (decide (zw < 0)), A48, (digs W zw.natAbs).length, c48, (digs W zw.natAbs)⟩, ⟨g46, (decide (zw < 0)), A46, (digs W zw.natAbs).length, c46, (digs W zw.natAbs)⟩, ⟨g43, (decide (zv < 0)), A43, (digs W zv.natAbs).length, c43, (digs W zv.natAbs)⟩, ⟨g41, (decide (zu < 0)), A41, (digs W zu.natAbs).length, c41, (digs W zu.natAbs)⟩, ⟨g39 + 1, (decide (zs < 0)), B39, (digs W zs.natAbs).length, d39, (digs W zs.natAbs)⟩, ⟨g39, (decide (zqb < 0)), A39, (digs W zqb.natAbs).length, c39, (digs W zqb.natAbs)⟩, ⟨g36 + 1, (decide (zr < 0)), B36, (digs W zr.natAbs).length, d36, (digs W zr.natAbs)⟩, ⟨g36, (decide (zqa < 0)), A36, (digs W zqa.natAbs).length, c36, (digs W zqa.natAbs)⟩, ⟨g31, (decide (zc < 0)), A31, (digs W zc.natAbs).length, c31, (digs W zc.natAbs)⟩, ⟨g25, (decide (zd < 0)), A25, (digs W zd.natAbs).length, c25, (digs W zd.natAbs)⟩, ⟨g23 + 1, (decide (zm < 0)), B23, (digs W zm.natAbs).length, d23, (digs W zm.natAbs)⟩, ⟨g23, (decide (zd < 0)), A23, (digs W zd.natAbs).length, c23, (digs W zd.natAbs)⟩, ⟨g17, (decide (zx < 0)), A17, (digs W zx.natAbs).length, c17, (digs W zx.natAbs)⟩, ⟨g14, (decide (z2 < 0)), A14, (digs W z2.natAbs).length, c14, (digs W z2.natAbs)⟩, ⟨g9, (decide (za < 0)), A9, (digs W za.natAbs).length, c9, (digs W za.natAbs)⟩, ⟨g7, (decide (zx < 0)), A7, (digs W zx.natAbs).length, c7, (digs W zx.natAbs)⟩, ⟨w.heap.size + 1, nb, A5, m_b, c5, l_b⟩, ⟨w.heap.size, na, A3, m_a, c3, l_a⟩] ∧ Old w51' [⟨g48, (decide (zw < 0)), A48, (digs W zw.natAbs).length, c48, (digs W zw.natAbs)⟩, ⟨g46, (decide (zw < 0)), A46, (digs W zw.natAbs).length, c46, (digs W zw.natAbs)⟩, ⟨g43, (decide (zv < 0)), A43, (digs W zv.natAbs).length, c43, (digs W zv.natAbs)⟩, ⟨g41, (decide (zu < 0)), A41, (digs W zu.natAbs).length, c41, (digs W zu.natAbs)⟩, ⟨g39 + 1, (decide (zs < 0)), B39, (digs W zs.natAbs).length, d39, (digs W zs.natAbs)⟩, ⟨g39, (decide (zqb < 0)), A39, (digs W zqb.natAbs).length, c39, (digs W zqb.natAbs)⟩, ⟨g36 + 1, (decide (zr < 0)), B36, (digs W zr.natAbs).length, d36, (digs W zr.natAbs)⟩, ⟨g36, (decide (zqa < 0)), A36, (digs W zqa.natAbs).length, c36, (digs W zqa.natAbs)⟩, ⟨g31, (decide (zc < 0)), A31, (digs W zc.natAbs).length, c31, (digs W zc.natAbs)⟩, ⟨g25, (decide (zd < 0)), A25, (digs W zd.natAbs).length, c25, (digs W zd.natAbs)⟩, ⟨g23 + 1, (decide (zm < 0)), B23, (digs W zm.natAbs).length, d23, (digs W zm.natAbs)⟩, ⟨g23, (decide (zd < 0)), A23, (digs W zd.natAbs).length, c23, (digs W zd.natAbs)⟩, ⟨g17, (decide (zx < 0)), A17, (digs W zx.natAbs).length, c17, (digs W zx.natAbs)⟩, ⟨g14, (decide (z2 < 0)), A14, (digs W z2.natAbs).length, c14, (digs W z2.natAbs)⟩, ⟨g9, (decide (za < 0)), A9, (digs W za.natAbs).length, c9, (digs W za.natAbs)⟩, ⟨g7, (decide (zx < 0)), A7, (digs W zx.natAbs).length, c7, (digs W zx.natAbs)⟩, ⟨w.heap.size + 1, nb, A5, m_b, c5, l_b⟩, ⟨w.heap.size, na, A3, m_a, c3, l_a⟩]) := Lib.hid ⟨HN48.out.1.below hb51, HN48.out.2.below hb51⟩
  clear hb51 x49a x49b x49c x49d x50a x50b x50c x50d
  go_upto_region 26 with fail
  obtain ⟨x52a, x52b, x52c, x52d⟩ := (HN51.out.1.x (.tail _ (.tail _ (.tail _ (.tail _ (.tail _ (.tail _ (.head _)))))))).facts
  go_wp2_with fail
  refine (Sign_zk (HN51.out.1.s (.tail _ (.tail _ (.tail _ (.tail _ (.tail _ (.tail _ (.head _)))))))) (ival_digs zr) GR.out).mono ?_
  rintro ex w53' ⟨rfl, hb53⟩
  have HN53 : Hid (Env w w53' [⟨g48, (decide (zw < 0)), A48, (digs W zw.natAbs).length, c48, (digs W zw.natAbs)⟩, ⟨g46, (decide (zw < 0)), A46, (digs W zw.natAbs).length, c46, (digs W zw.natAbs)⟩, ⟨g43, (decide (zv < 0)), A43, (digs W zv.natAbs).length, c43, (digs W zv.natAbs)⟩, ⟨g41, (decide (zu < 0)), A41, (digs W zu.natAbs).length, c41, (digs W zu.natAbs)⟩, ⟨g39 + 1, (decide (zs < 0)), B39, (digs W zs.natAbs).length, d39, (digs W zs.natAbs)⟩, ⟨g39, (decide (zqb < 0)), A39, (digs W zqb.natAbs).length, c39, (digs W zqb.natAbs)⟩, ⟨g36 + 1, (decide (zr < 0)), B36, (digs W zr.natAbs).length, d36, (digs W zr.natAbs)⟩, ⟨g36, (decide (zqa < 0)), A36, (digs W zqa.natAbs).length, c36, (digs W zqa.natAbs)⟩, ⟨g31, (decide (zc < 0)), A31, (digs W zc.natAbs).length, c31, (digs W zc.natAbs)⟩, ⟨g25, (decide (zd < 0)), A25, (digs W zd.natAbs).length, c25, (digs W zd.natAbs)⟩, ⟨g23 + 1, (decide (zm < 0)), B23, (digs W zm.natAbs).length, d23, (digs W zm.natAbs)⟩, ⟨g23, (decide (zd < 0)), A23, (digs W zd.natAbs).length, c23, (digs W zd.natAbs)⟩, ⟨g17, (decide (zx < 0)), A17, (digs W zx.natAbs).length, c17, (digs W zx.natAbs)⟩, ⟨g14, (decide (z2 < 0)), A14, (digs W z2.natAbs).length, c14, (digs W z2.natAbs)⟩, ⟨g9, (decide (za < 0)), A9, (digs W za.natAbs).length, c9, (digs W za.natAbs)⟩, ⟨g7, (decide (zx < 0)), A7, (digs W zx.natAbs).length, c7, (digs W zx.natAbs)⟩, ⟨w.heap.size + 1, nb, A5, m_b, c5, l_b⟩, ⟨w.heap.size, na, A3, m_a, c3, l_a⟩] ∧ Old w53' [⟨g48, (decide (zw < 0)), A48, (digs W zw.natAbs).length, c48, (digs W zw.natAbs)⟩, ⟨g46, (decide (zw < 0)), A46, (digs W zw.natAbs).length, c46, (digs W zw.natAbs)⟩, ⟨g43, (decide (zv < 0)), A43, (digs W zv.natAbs).length, c43, (digs W zv.natAbs)⟩, ⟨g41, (decide (zu < 0)), A41, (digs W zu.natAbs).length, c41, (digs W zu.natAbs)⟩, ⟨g39 + 1, (decide (zs < 0)), B39, (digs W zs.natAbs).length, d39, (digs W zs.natAbs)⟩, ⟨g39, (decide (zqb < 0)), A39, (digs W zqb.natAbs).length, c39, (digs W zqb.natAbs)⟩, ⟨g36 + 1, (decide (zr < 0)), B36, (digs W zr.natAbs).length, d36, (digs W zr.natAbs)⟩, ⟨g36, (decide (zqa < 0)), A36, (digs W zqa.natAbs).length, c36, (digs W zqa.natAbs)⟩, ⟨g31, (decide (zc < 0)), A31, (digs W zc.natAbs).length, c31, (digs W zc.natAbs)⟩, ⟨g25, (decide (zd < 0)), A25, (digs W zd.natAbs).length, c25, (digs W zd.natAbs)⟩, ⟨g23 + 1, (decide (zm < 0)), B23, (digs W zm.natAbs).length, d23, (digs W zm.natAbs)⟩, ⟨g23, (decide (zd < 0)), A23, (digs W zd.natAbs).length, c23, (digs W zd.natAbs)⟩, ⟨g17, (decide (zx < 0)), A17, (digs W zx.natAbs).length, c17, (digs W zx.natAbs)⟩, ⟨g14, (decide (z2 < 0)), A14, (digs W z2.natAbs).length, c14, (digs W z2.natAbs)⟩, ⟨g9, (decide (za < 0)), A9, (digs W za.natAbs).length, c9, (digs W za.natAbs)⟩, ⟨g7, (decide (zx < 0)), A7, (digs W zx.natAbs).length, c7, (digs W zx.natAbs)⟩, ⟨w.heap.size + 1, nb, A5, m_b, c5, l_b⟩, ⟨w.heap.size, na, A3, m_a, c3, l_a⟩]) := Lib.hid ⟨HN51.out.1.below hb53, HN51.out.2.below hb53⟩
  clear hb53 x52a x52b x52c x52d
  obtain ⟨x54a, x54b, x54c, x54d⟩ := (HN53.out.1.x (.tail _ (.tail _ (.tail _ (.tail _ (.head _)))))).facts
  go_wp2_with fail
  refine (Sign_zk (HN53.out.1.s (.tail _ (.tail _ (.tail _ (.tail _ (.head _)))))) (ival_digs zs) GS.out).mono ?_
  rintro ex w55' ⟨rfl, hb55⟩
  have HN55 : Hid (Env w w55' [⟨g48, (decide (zw < 0)), A48, (digs W zw.natAbs).length, c48, (digs W zw.natAbs)⟩, ⟨g46, (decide (zw < 0)), A46, (digs W zw.natAbs).length, c46, (digs W zw.natAbs)⟩, ⟨g43, (decide (zv < 0)), A43, (digs W zv.natAbs).length, c43, (digs W zv.natAbs)⟩, ⟨g41, (decide (zu < 0)), A41, (digs W zu.natAbs).length, c41, (digs W zu.natAbs)⟩, ⟨g39 + 1, (decide (zs < 0)), B39, (digs W zs.natAbs).length, d39, (digs W zs.natAbs)⟩, ⟨g39, (decide (zqb < 0)), A39, (digs W zqb.natAbs).length, c39, (digs W zqb.natAbs)⟩, ⟨g36 + 1, (decide (zr < 0)), B36, (digs W zr.natAbs).length, d36, (digs W zr.natAbs)⟩, ⟨g36, (decide (zqa < 0)), A36, (digs W zqa.natAbs).length, c36, (digs W zqa.natAbs)⟩, ⟨g31, (decide (zc < 0)), A31, (digs W zc.natAbs).length, c31, (digs W zc.natAbs)⟩, ⟨g25, (decide (zd < 0)), A25, (digs W zd.natAbs).length, c25, (digs W zd.natAbs)⟩, ⟨g23 + 1, (decide (zm < 0)), B23, (digs W zm.natAbs).length, d23, (digs W zm.natAbs)⟩, ⟨g23, (decide (zd < 0)), A23, (digs W zd.natAbs).length, c23, (digs W zd.natAbs)⟩, ⟨g17, (decide (zx < 0)), A17, (digs W zx.natAbs).length, c17, (digs W zx.natAbs)⟩, ⟨g14, (decide (z2 < 0)), A14, (digs W z2.natAbs).length, c14, (digs W z2.natAbs)⟩, ⟨g9, (decide (za < 0)), A9, (digs W za.natAbs).length, c9, (digs W za.natAbs)⟩, ⟨g7, (decide (zx < 0)), A7, (digs W zx.natAbs).length, c7, (digs W zx.natAbs)⟩, ⟨w.heap.size + 1, nb, A5, m_b, c5, l_b⟩, ⟨w.heap.size, na, A3, m_a, c3, l_a⟩] ∧ Old w55' [⟨g48, (decide (zw < 0)), A48, (digs W zw.natAbs).length, c48, (digs W zw.natAbs)⟩, ⟨g46, (decide (zw < 0)), A46, (digs W zw.natAbs).length, c46, (digs W zw.natAbs)⟩, ⟨g43, (decide (zv < 0)), A43, (digs W zv.natAbs).length, c43, (digs W zv.natAbs)⟩, ⟨g41, (decide (zu < 0)), A41, (digs W zu.natAbs).length, c41, (digs W zu.natAbs)⟩, ⟨g39 + 1, (decide (zs < 0)), B39, (digs W zs.natAbs).length, d39, (digs W zs.natAbs)⟩, ⟨g39, (decide (zqb < 0)), A39, (digs W zqb.natAbs).length, c39, (digs W zqb.natAbs)⟩, ⟨g36 + 1, (decide (zr < 0)), B36, (digs W zr.natAbs).length, d36, (digs W zr.natAbs)⟩, ⟨g36, (decide (zqa < 0)), A36, (digs W zqa.natAbs).length, c36, (digs W zqa.natAbs)⟩, ⟨g31, (decide (zc < 0)), A31, (digs W zc.natAbs).length, c31, (digs W zc.natAbs)⟩, ⟨g25, (decide (zd < 0)), A25, (digs W zd.natAbs).length, c25, (digs W zd.natAbs)⟩, ⟨g23 + 1, (decide (zm < 0)), B23, (digs W zm.natAbs).length, d23, (digs W zm.natAbs)⟩, ⟨g23, (decide (zd < 0)), A23, (digs W zd.natAbs).length, c23, (digs W zd.natAbs)⟩, ⟨g17, (decide (zx < 0)), A17, (digs W zx.natAbs).length, c17, (digs W zx.natAbs)⟩, ⟨g14, (decide (z2 < 0)), A14, (digs W z2.natAbs).length, c14, (digs W z2.natAbs)⟩, ⟨g9, (decide (za < 0)), A9, (digs W za.natAbs).length, c9, (digs W za.natAbs)⟩, ⟨g7, (decide (zx < 0)), A7, (digs W zx.natAbs).length, c7, (digs W zx.natAbs)⟩, ⟨w.heap.size + 1, nb, A5, m_b, c5, l_b⟩, ⟨w.heap.size, na, A3, m_a, c3, l_a⟩]) := Lib.hid ⟨HN53.out.1.below hb55, HN53.out.2.below hb55⟩
  clear hb55 x54a x54b x54c x54d
  obtain ⟨x56a, x56b, x56c, x56d⟩ := (HN55.out.1.x (.tail _ (.tail _ (.tail _ (.tail _ (.tail _ (.tail _ (.tail _ (.tail _ (.head _)))))))))).facts
  go_wp2_with fail
  refine (Sign_zk (HN55.out.1.s (.tail _ (.tail _ (.tail _ (.tail _ (.tail _ (.tail _ (.tail _ (.tail _ (.head _)))))))))) (ival_digs zc) GC.out).mono ?_
  rintro ex w57' ⟨rfl, hb57⟩
  have HN57 : Hid (Env w w57' [⟨g48, (decide (zw < 0)), A48, (digs W zw.natAbs).length, c48, (digs W zw.natAbs)⟩, ⟨g46, (decide (zw < 0)), A46, (digs W zw.natAbs).length, c46, (digs W zw.natAbs)⟩, ⟨g43, (decide (zv < 0)), A43, (digs W zv.natAbs).length, c43, (digs W zv.natAbs)⟩, ⟨g41, (decide (zu < 0)), A41, (digs W zu.natAbs).length, c41, (digs W zu.natAbs)⟩, ⟨g39 + 1, (decide (zs < 0)), B39, (digs W zs.natAbs).length, d39, (digs W zs.natAbs)⟩, ⟨g39, (decide (zqb < 0)), A39, (digs W zqb.natAbs).length, c39, (digs W zqb.natAbs)⟩, ⟨g36 + 1, (decide (zr < 0)), B36, (digs W zr.natAbs).length, d36, (digs W zr.natAbs)⟩, ⟨g36, (decide (zqa < 0)), A36, (digs W zqa.natAbs).length, c36, (digs W zqa.natAbs)⟩, ⟨g31, (decide (zc < 0)), A31, (digs W zc.natAbs).length, c31, (digs W zc.natAbs)⟩, ⟨g25, (decide (zd < 0)), A25, (digs W zd.natAbs).length, c25, (digs W zd.natAbs)⟩, ⟨g23 + 1, (decide (zm < 0)), B23, (digs W zm.natAbs).length, d23, (digs W zm.natAbs)⟩, ⟨g23, (decide (zd < 0)), A23, (digs W zd.natAbs).length, c23, (digs W zd.natAbs)⟩, ⟨g17, (decide (zx < 0)), A17, (digs W zx.natAbs).length, c17, (digs W zx.natAbs)⟩, ⟨g14, (decide (z2 < 0)), A14, (digs W z2.natAbs).length, c14, (digs W z2.natAbs)⟩, ⟨g9, (decide (za < 0)), A9, (digs W za.natAbs).length, c9, (digs W za.natAbs)⟩, ⟨g7, (decide (zx < 0)), A7, (digs W zx.natAbs).length, c7, (digs W zx.natAbs)⟩, ⟨w.heap.size + 1, nb, A5, m_b, c5, l_b⟩, ⟨w.heap.size, na, A3, m_a, c3, l_a⟩] ∧ Old w57' [⟨g48, (decide (zw < 0)), A48, (digs W zw.natAbs).length, c48, (digs W zw.natAbs)⟩, ⟨g46, (decide (zw < 0)), A46, (digs W zw.natAbs).length, c46, (digs W zw.natAbs)⟩, ⟨g43, (decide (zv < 0)), A43, (digs W zv.natAbs).length, c43, (digs W zv.natAbs)⟩, ⟨g41, (decide (zu < 0)), A41, (digs W zu.natAbs).length, c41, (digs W zu.natAbs)⟩, ⟨g39 + 1, (decide (zs < 0)), B39, (digs W zs.natAbs).length, d39, (digs W zs.natAbs)⟩, ⟨g39, (decide (zqb < 0)), A39, (digs W zqb.natAbs).length, c39, (digs W zqb.natAbs)⟩, ⟨g36 + 1, (decide (zr < 0)), B36, (digs W zr.natAbs).length, d36, (digs W zr.natAbs)⟩, ⟨g36, (decide (zqa < 0)), A36, (digs W zqa.natAbs).length, c36, (digs W zqa.natAbs)⟩, ⟨g31, (decide (zc < 0)), A31, (digs W zc.natAbs).length, c31, (digs W zc.natAbs)⟩, ⟨g25, (decide (zd < 0)), A25, (digs W zd.natAbs).length, c25, (digs W zd.natAbs)⟩, ⟨g23 + 1, (decide (zm < 0)), B23, (digs W zm.natAbs).length, d23, (digs W zm.natAbs)⟩, ⟨g23, (decide (zd < 0)), A23, (digs W zd.natAbs).length, c23, (digs W zd.natAbs)⟩, ⟨g17, (decide (zx < 0)), A17, (digs W zx.natAbs).length, c17, (digs W zx.natAbs)⟩, ⟨g14, (decide (z2 < 0)), A14, (digs W z2.natAbs).length, c14, (digs W z2.natAbs)⟩, ⟨g9, (decide (za < 0)), A9, (digs W za.natAbs).length, c9, (digs W za.natAbs)⟩, ⟨g7, (decide (zx < 0)), A7, (digs W zx.natAbs).length, c7, (digs W zx.natAbs)⟩, ⟨w.heap.size + 1, nb, A5, m_b, c5, l_b⟩, ⟨w.heap.size, na, A3, m_a, c3, l_a⟩]) := Lib.hid ⟨HN55.out.1.below hb57, HN55.out.2.below hb57⟩
  clear hb57 x56a x56b x56c x56d
  go_wp2
  go_ret
  exact ⟨rfl, HN57.out.1.b⟩
end Go.Proofs.Ytggdmhkdmkldoaa

import Derived.Test.YtggdmhkdmkldoaaCn
namespace Go.Proofs.Ytggdmhkdmkldoaa
open Go.RowKit Hb

set_option maxRecDepth 100000 in
set_option maxHeartbeats 8000000 in
theorem Rings_walk (na nb nc : Bool) {Aa Ab Ac : Option Addr} {la lb lc : List Nat} {n_a ca n_b cb n_c cc : Nat} {w : World} (hsa : SlU w w.heap.size Aa n_a ca la) (hsb : SlU w w.heap.size Ab n_b cb lb) (hsc : SlU w w.heap.size Ac n_c cc lc)
    (hAa : Aa = none → ca = 0) (hAb : Ab = none → cb = 0) (hAc : Ac = none → cc = 0) :
    Calls Try.prog 9 #[.agg #[.bool na, .slice Aa n_a ca], .agg #[.bool nb, .slice Ab n_b cb], .agg #[.bool nc, .slice Ac n_c cc]] w fun e w' => e = .returned (.bool true) ∧ Below w.heap.size w w' := by
  obtain ⟨l_a, m_a, hl_a, hm_a, hd_a, hf_a⟩ := few_q (neg := na) 40 (by decide) hAa hsa
  have HFew_a : Hid (∀ w, SlU w w.heap.size Aa n_a ca la → Calls Try.prog 31 #[.agg #[.bool na, .slice Aa n_a ca], .int .i64 40] w (FewQ w na l_a m_a)) := Lib.hid hf_a
  have HM_a := Lib.hid (And.intro hl_a (And.intro hm_a hd_a))
  obtain ⟨za, hza⟩ : ∃ z, ival na l_a = z := ⟨_, rfl⟩
  have Ba : za.natAbs < 2 ^ (32 * 40) := by rw [← hza]; exact few_bnd (k := 40) hd_a hl_a hm_a
  have HI_a := Lib.hid hza
  have T_za := Lib.hid (tooLong_lt _ (by decide) Ba)
  clear hl_a hm_a hd_a hf_a hza hAa
  obtain ⟨l_b, m_b, hl_b, hm_b, hd_b, hf_b⟩ := few_q (neg := nb) 40 (by decide) hAb hsb
  have HFew_b : Hid (∀ w, SlU w w.heap.size Ab n_b cb lb → Calls Try.prog 31 #[.agg #[.bool nb, .slice Ab n_b cb], .int .i64 40] w (FewQ w nb l_b m_b)) := Lib.hid hf_b
  have HM_b := Lib.hid (And.intro hl_b (And.intro hm_b hd_b))
  obtain ⟨zb, hzb⟩ : ∃ z, ival nb l_b = z := ⟨_, rfl⟩
  have Bb : zb.natAbs < 2 ^ (32 * 40) := by rw [← hzb]; exact few_bnd (k := 40) hd_b hl_b hm_b
  have HI_b := Lib.hid hzb
  have T_zb := Lib.hid (tooLong_lt _ (by decide) Bb)
  clear hl_b hm_b hd_b hf_b hzb hAb
  obtain ⟨l_c, m_c, hl_c, hm_c, hd_c, hf_c⟩ := few_q (neg := nc) 40 (by decide) hAc hsc
  have HFew_c : Hid (∀ w, SlU w w.heap.size Ac n_c cc lc → Calls Try.prog 31 #[.agg #[.bool nc, .slice Ac n_c cc], .int .i64 40] w (FewQ w nc l_c m_c)) := Lib.hid hf_c
  have HM_c := Lib.hid (And.intro hl_c (And.intro hm_c hd_c))
  obtain ⟨zc, hzc⟩ : ∃ z, ival nc l_c = z := ⟨_, rfl⟩
  have Bc : zc.natAbs < 2 ^ (32 * 40) := by rw [← hzc]; exact few_bnd (k := 40) hd_c hl_c hm_c
  have HI_c := Lib.hid hzc
  have T_zc := Lib.hid (tooLong_lt _ (by decide) Bc)
  clear hl_c hm_c hd_c hf_c hzc hAc
  obtain ⟨zab, hzab⟩ : ∃ z, za + zb = z := ⟨_, rfl⟩
  have Bzab := add_bnd Ba Bb
  rw [hzab] at Bzab
  have T_zab := Lib.hid (tooLong_lt _ (by decide) Bzab)
  have E_zab := Lib.hid hzab
  obtain ⟨zm, hzm⟩ : ∃ z, za * zb = z := ⟨_, rfl⟩
  have Bzm := mul_bnd Ba Bb
  rw [hzm] at Bzm
  have T_zm := Lib.hid (tooLong_lt _ (by decide) Bzm)
  have E_zm := Lib.hid hzm
  obtain ⟨zs, hzs⟩ : ∃ z, zb + zc = z := ⟨_, rfl⟩
  have Bzs := add_bnd Bb Bc
  rw [hzs] at Bzs
  have T_zs := Lib.hid (tooLong_lt _ (by decide) Bzs)
  have E_zs := Lib.hid hzs
  obtain ⟨zac, hzac⟩ : ∃ z, za * zc = z := ⟨_, rfl⟩
  have Bzac := mul_bnd Ba Bc
  rw [hzac] at Bzac
  have T_zac := Lib.hid (tooLong_lt _ (by decide) Bzac)
  have E_zac := Lib.hid hzac
  obtain ⟨zam, hzam⟩ : ∃ z, zm + zac = z := ⟨_, rfl⟩
  have Bzam := add_bnd Bzm Bzac
  rw [hzam] at Bzam
  have T_zam := Lib.hid (tooLong_lt _ (by decide) Bzam)
  have E_zam := Lib.hid hzam
  obtain ⟨zd, hzd⟩ : ∃ z, za - zb = z := ⟨_, rfl⟩
  have Bzd := sub_bnd Ba Bb
  rw [hzd] at Bzd
  have T_zd := Lib.hid (tooLong_lt _ (by decide) Bzd)
  have E_zd := Lib.hid hzd
  obtain ⟨zbc, hzbc⟩ : ∃ z, zb * zc = z := ⟨_, rfl⟩
  have Bzbc := mul_bnd Bb Bc
  rw [hzbc] at Bzbc
  have T_zbc := Lib.hid (tooLong_lt _ (by decide) Bzbc)
  have E_zbc := Lib.hid hzbc
  obtain ⟨zp3, hzp3⟩ : ∃ z, zm * zc = z := ⟨_, rfl⟩
  have Bzp3 := mul_bnd Bzm Bc
  rw [hzp3] at Bzp3
  have T_zp3 := Lib.hid (tooLong_lt _ (by decide) Bzp3)
  have E_zp3 := Lib.hid hzp3
  have E1 := Lib.hid (show zb + za = zab by rw [← hzab]; exact Int.add_comm _ _)
  have E2 := Lib.hid (show zb * za = zm by rw [← hzm]; exact Int.mul_comm _ _)
  have E3 := Lib.hid (show za * zs = zam by rw [← hzam, ← hzm, ← hzac, ← hzs]; exact Int.mul_add _ _ _)
  have E4 := Lib.hid (show zd + zb = za by rw [← hzd]; omega)
  have E5 := Lib.hid (show za * zbc = zp3 by rw [← hzbc, ← hzp3, ← hzm, Int.mul_assoc])
  have hE6 : zd.sign = cmpZ za zb := by rw [← hzd]; exact sign_cmp _ _
  obtain ⟨sv, hsv⟩ : ∃ sv, cmpZ za zb = sv := ⟨_, rfl⟩
  have E8 := Lib.hid hsv
  have E7 := Lib.hid (hE6.trans hsv)
  clear hE6 hsv
  clear hzab hzm hzs hzac hzam hzd hzbc hzp3 Ba Bb Bc Bzab Bzm Bzs Bzac Bzam Bzd Bzbc Bzp3
  have K0 := Env.box (Env.nil w) (Old.nil w) (neg := na) hsa rfl
  have K1 := Env.box K0.1 K0.2 (neg := nb) hsb (g := w.heap.size + 1) (by simp)
  have HN0 := Lib.hid (Env.box K1.1 K1.2 (neg := nc) hsc (g := w.heap.size + 1 + 1) (by simp))
  clear K0 K1 hsa hsb hsc
  go_enter Try.func9, Try.ntmps9
  go_wp2_with fail
  refine (awake_any _).mono ?_
  rintro ex w1 ⟨rfl, hb1⟩
  have HN1 : Hid (Env w w1 [⟨w.heap.size + 1 + 1, nc, Ac, n_c, cc, lc⟩, ⟨w.heap.size + 1, nb, Ab, n_b, cb, lb⟩, ⟨w.heap.size, na, Aa, n_a, ca, la⟩] ∧ Old w1 [⟨w.heap.size + 1 + 1, nc, Ac, n_c, cc, lc⟩, ⟨w.heap.size + 1, nb, Ab, n_b, cb, lb⟩, ⟨w.heap.size, na, Aa, n_a, ca, la⟩]) := Lib.hid ⟨HN0.out.1.below hb1, HN0.out.2.below hb1⟩
  clear hb1
  go_upto_region 2 with fail
  obtain ⟨x2a, x2b, x2c, x2d⟩ := (HN1.out.1.x (.tail _ (.tail _ (.head _)))).facts
  go_wp2_with fail
  refine (HFew_a.out _ (HN1.out.1.s (.tail _ (.tail _ (.head _))))).mono ?_
  rintro ex w3' ⟨A3, c3, rfl, ho3, hb3⟩
  obtain ⟨y3a, y3b, y3c, y3d⟩ := ((HN1.out.1.below hb3).x (.tail _ (.tail _ (.head _)))).facts
  have HN3 : Hid (Env w ((w3'.setCell ⟨w.heap.size, 0, none⟩ (.bool na)).setCell ⟨w.heap.size, 1, none⟩ (.slice A3 m_a c3)) [⟨w.heap.size + 1 + 1, nc, Ac, n_c, cc, lc⟩, ⟨w.heap.size + 1, nb, Ab, n_b, cb, lb⟩, ⟨w.heap.size, na, A3, m_a, c3, l_a⟩] ∧ Old ((w3'.setCell ⟨w.heap.size, 0, none⟩ (.bool na)).setCell ⟨w.heap.size, 1, none⟩ (.slice A3 m_a c3)) [⟨w.heap.size + 1 + 1, nc, Ac, n_c, cc, lc⟩, ⟨w.heap.size + 1, nb, Ab, n_b, cb, lb⟩, ⟨w.heap.size, na, A3, m_a, c3, l_a⟩]) := Lib.hid (Env.call_set HN1.out.1 HN1.out.2 hb3 ho3 HM_a.out.2.2 HM_a.out.1 2 rfl)
  clear ho3 hb3 x2a x2b x2c x2d
  go_upto_region 3 with fail
  generalize ((w3'.setCell ⟨w.heap.size, 0, none⟩ (.bool na)).setCell ⟨w.heap.size, 1, none⟩ (.slice A3 m_a c3)) = w3 at *
  clear y3a y3b y3c y3d
  go_upto_region 3 with fail
  obtain ⟨x4a, x4b, x4c, x4d⟩ := (HN3.out.1.x (.tail _ (.head _))).facts
  go_wp2_with fail
  refine (HFew_b.out _ (HN3.out.1.s (.tail _ (.head _)))).mono ?_
  rintro ex w5' ⟨A5, c5, rfl, ho5, hb5⟩
  obtain ⟨y5a, y5b, y5c, y5d⟩ := ((HN3.out.1.below hb5).x (.tail _ (.head _))).facts
  have HN5 : Hid (Env w ((w5'.setCell ⟨w.heap.size + 1, 0, none⟩ (.bool nb)).setCell ⟨w.heap.size + 1, 1, none⟩ (.slice A5 m_b c5)) [⟨w.heap.size + 1 + 1, nc, Ac, n_c, cc, lc⟩, ⟨w.heap.size + 1, nb, A5, m_b, c5, l_b⟩, ⟨w.heap.size, na, A3, m_a, c3, l_a⟩] ∧ Old ((w5'.setCell ⟨w.heap.size + 1, 0, none⟩ (.bool nb)).setCell ⟨w.heap.size + 1, 1, none⟩ (.slice A5 m_b c5)) [⟨w.heap.size + 1 + 1, nc, Ac, n_c, cc, lc⟩, ⟨w.heap.size + 1, nb, A5, m_b, c5, l_b⟩, ⟨w.heap.size, na, A3, m_a, c3, l_a⟩]) := Lib.hid (Env.call_set HN3.out.1 HN3.out.2 hb5 ho5 HM_b.out.2.2 HM_b.out.1 1 rfl)
  clear ho5 hb5 x4a x4b x4c x4d
  go_upto_region 4 with fail
  generalize ((w5'.setCell ⟨w.heap.size + 1, 0, none⟩ (.bool nb)).setCell ⟨w.heap.size + 1, 1, none⟩ (.slice A5 m_b c5)) = w5 at *
  clear y5a y5b y5c y5d
  go_upto_region 4 with fail
  obtain ⟨x6a, x6b, x6c, x6d⟩ := (HN5.out.1.x (.head _)).facts
  go_wp2_with fail
  refine (HFew_c.out _ (HN5.out.1.s (.head _))).mono ?_
  rintro ex w7' ⟨A7, c7, rfl, ho7, hb7⟩
  obtain ⟨y7a, y7b, y7c, y7d⟩ := ((HN5.out.1.below hb7).x (.head _)).facts
  have HN7 : Hid (Env w ((w7'.setCell ⟨w.heap.size + 1 + 1, 0, none⟩ (.bool nc)).setCell ⟨w.heap.size + 1 + 1, 1, none⟩ (.slice A7 m_c c7)) [⟨w.heap.size + 1 + 1, nc, A7, m_c, c7, l_c⟩, ⟨w.heap.size + 1, nb, A5, m_b, c5, l_b⟩, ⟨w.heap.size, na, A3, m_a, c3, l_a⟩] ∧ Old ((w7'.setCell ⟨w.heap.size + 1 + 1, 0, none⟩ (.bool nc)).setCell ⟨w.heap.size + 1 + 1, 1, none⟩ (.slice A7 m_c c7)) [⟨w.heap.size + 1 + 1, nc, A7, m_c, c7, l_c⟩, ⟨w.heap.size + 1, nb, A5, m_b, c5, l_b⟩, ⟨w.heap.size, na, A3, m_a, c3, l_a⟩]) := Lib.hid (Env.call_set HN5.out.1 HN5.out.2 hb7 ho7 HM_c.out.2.2 HM_c.out.1 0 rfl)
  clear ho7 hb7 x6a x6b x6c x6d
  go_upto_region 5 with fail
  generalize ((w7'.setCell ⟨w.heap.size + 1 + 1, 0, none⟩ (.bool nc)).setCell ⟨w.heap.size + 1 + 1, 1, none⟩ (.slice A7 m_c c7)) = w7 at *
  clear y7a y7b y7c y7d
  go_upto_region 5 with fail
  obtain ⟨x8a, x8b, x8c, x8d⟩ := (HN7.out.1.x (.tail _ (.tail _ (.head _)))).facts
  obtain ⟨x9a, x9b, x9c, x9d⟩ := (HN7.out.1.x (.tail _ (.head _))).facts
  go_wp2_with fail
  refine (Add_z (HN7.out.1.s (.tail _ (.tail _ (.head _)))) (HN7.out.1.s (.tail _ (.head _))) (Nat.le_trans HM_a.out.2.1 (by decide)) (Nat.le_trans HM_b.out.2.1 (by decide)) HI_a.out HI_b.out E_zab.out T_za.out T_zb.out T_zab.out).mono ?_
  rintro ex w10' ⟨v, rfl, ⟨A10, c10, rfl, ho10⟩, hb10⟩
  have HN10 : Hid (Env w (w10'.alloc (.cells #[.bool (decide (zab < 0)), .slice A10 (digs W zab.natAbs).length c10] 24)) [⟨w10'.heap.size, (decide (zab < 0)), A10, (digs W zab.natAbs).length, c10, (digs W zab.natAbs)⟩, ⟨w.heap.size + 1 + 1, nc, A7, m_c, c7, l_c⟩, ⟨w.heap.size + 1, nb, A5, m_b, c5, l_b⟩, ⟨w.heap.size, na, A3, m_a, c3, l_a⟩] ∧ Old (w10'.alloc (.cells #[.bool (decide (zab < 0)), .slice A10 (digs W zab.natAbs).length c10] 24)) [⟨w10'.heap.size, (decide (zab < 0)), A10, (digs W zab.natAbs).length, c10, (digs W zab.natAbs)⟩, ⟨w.heap.size + 1 + 1, nc, A7, m_c, c7, l_c⟩, ⟨w.heap.size + 1, nb, A5, m_b, c5, l_b⟩, ⟨w.heap.size, na, A3, m_a, c3, l_a⟩]) := Lib.hid (Env.call_push HN7.out.1 HN7.out.2 hb10 ho10 (dig_digs (by decide) _) rfl)
  clear ho10 hb10 x8a x8b x8c x8d x9a x9b x9c x9d
  go_upto_region 6 with fail
  generalize (w10'.alloc (.cells #[.bool (decide (zab < 0)), .slice A10 (digs W zab.natAbs).length c10] 24)) = w10 at *
  generalize w10'.heap.size = g10 at *
  go_upto_region 6 with fail
  obtain ⟨x11a, x11b, x11c, x11d⟩ := (HN10.out.1.x (.tail _ (.tail _ (.head _)))).facts
  obtain ⟨x12a, x12b, x12c, x12d⟩ := (HN10.out.1.x (.tail _ (.tail _ (.tail _ (.head _))))).facts
  go_wp2_with fail
  refine (Add_z (HN10.out.1.s (.tail _ (.tail _ (.head _)))) (HN10.out.1.s (.tail _ (.tail _ (.tail _ (.head _))))) (Nat.le_trans HM_b.out.2.1 (by decide)) (Nat.le_trans HM_a.out.2.1 (by decide)) HI_b.out HI_a.out E1.out T_zb.out T_za.out T_zab.out).mono ?_
  rintro ex w13' ⟨v, rfl, ⟨A13, c13, rfl, ho13⟩, hb13⟩
  have HN13 : Hid (Env w (w13'.alloc (.cells #[.bool (decide (zab < 0)), .slice A13 (digs W zab.natAbs).length c13] 24)) [⟨w13'.heap.size, (decide (zab < 0)), A13, (digs W zab.natAbs).length, c13, (digs W zab.natAbs)⟩, ⟨g10, (decide (zab < 0)), A10, (digs W zab.natAbs).length, c10, (digs W zab.natAbs)⟩, ⟨w.heap.size + 1 + 1, nc, A7, m_c, c7, l_c⟩, ⟨w.heap.size + 1, nb, A5, m_b, c5, l_b⟩, ⟨w.heap.size, na, A3, m_a, c3, l_a⟩] ∧ Old (w13'.alloc (.cells #[.bool (decide (zab < 0)), .slice A13 (digs W zab.natAbs).length c13] 24)) [⟨w13'.heap.size, (decide (zab < 0)), A13, (digs W zab.natAbs).length, c13, (digs W zab.natAbs)⟩, ⟨g10, (decide (zab < 0)), A10, (digs W zab.natAbs).length, c10, (digs W zab.natAbs)⟩, ⟨w.heap.size + 1 + 1, nc, A7, m_c, c7, l_c⟩, ⟨w.heap.size + 1, nb, A5, m_b, c5, l_b⟩, ⟨w.heap.size, na, A3, m_a, c3, l_a⟩]) := Lib.hid (Env.call_push HN10.out.1 HN10.out.2 hb13 ho13 (dig_digs (by decide) _) rfl)
  clear ho13 hb13 x11a x11b x11c x11d x12a x12b x12c x12d
  go_upto_region 7 with fail
  generalize (w13'.alloc (.cells #[.bool (decide (zab < 0)), .slice A13 (digs W zab.natAbs).length c13] 24)) = w13 at *
  generalize w13'.heap.size = g13 at *
  go_upto_region 7 with fail
  obtain ⟨x14a, x14b, x14c, x14d⟩ := (HN13.out.1.x (.tail _ (.head _))).facts
  obtain ⟨x15a, x15b, x15c, x15d⟩ := (HN13.out.1.x (.head _)).facts
  go_wp2_with fail
  refine (same_z (HN13.out.1.s (.tail _ (.head _))) (HN13.out.1.s (.head _)) (ival_digs zab) (ival_digs zab)).mono ?_
  rintro ex w16' ⟨rfl, hb16⟩
  have HN16 : Hid (Env w w16' [⟨g13, (decide (zab < 0)), A13, (digs W zab.natAbs).length, c13, (digs W zab.natAbs)⟩, ⟨g10, (decide (zab < 0)), A10, (digs W zab.natAbs).length, c10, (digs W zab.natAbs)⟩, ⟨w.heap.size + 1 + 1, nc, A7, m_c, c7, l_c⟩, ⟨w.heap.size + 1, nb, A5, m_b, c5, l_b⟩, ⟨w.heap.size, na, A3, m_a, c3, l_a⟩] ∧ Old w16' [⟨g13, (decide (zab < 0)), A13, (digs W zab.natAbs).length, c13, (digs W zab.natAbs)⟩, ⟨g10, (decide (zab < 0)), A10, (digs W zab.natAbs).length, c10, (digs W zab.natAbs)⟩, ⟨w.heap.size + 1 + 1, nc, A7, m_c, c7, l_c⟩, ⟨w.heap.size + 1, nb, A5, m_b, c5, l_b⟩, ⟨w.heap.size, na, A3, m_a, c3, l_a⟩]) := Lib.hid ⟨HN13.out.1.below hb16, HN13.out.2.below hb16⟩
  clear hb16 x14a x14b x14c x14d x15a x15b x15c x15d
  go_upto_region 8 with fail
  go_upto_region 8 with fail
  obtain ⟨x17a, x17b, x17c, x17d⟩ := (HN16.out.1.x (.tail _ (.tail _ (.tail _ (.tail _ (.head _)))))).facts
  obtain ⟨x18a, x18b, x18c, x18d⟩ := (HN16.out.1.x (.tail _ (.tail _ (.tail _ (.head _))))).facts
  go_wp2_with fail
  refine (Mul_z (HN16.out.1.s (.tail _ (.tail _ (.tail _ (.tail _ (.head _)))))) (HN16.out.1.s (.tail _ (.tail _ (.tail _ (.head _))))) (Nat.le_trans HM_a.out.2.1 (by decide)) (Nat.le_trans HM_b.out.2.1 (by decide)) HI_a.out HI_b.out E_zm.out T_za.out T_zb.out T_zm.out).mono ?_
  rintro ex w19' ⟨v, rfl, ⟨A19, c19, rfl, ho19⟩, hb19⟩
  obtain ⟨y19a, y19b, y19c, y19d⟩ := ((HN16.out.1.below hb19).x (.tail _ (.head _))).facts
  have HN19 : Hid (Env w ((w19'.setCell ⟨g10, 0, none⟩ (.bool (decide (zm < 0)))).setCell ⟨g10, 1, none⟩ (.slice A19 (digs W zm.natAbs).length c19)) [⟨g13, (decide (zab < 0)), A13, (digs W zab.natAbs).length, c13, (digs W zab.natAbs)⟩, ⟨g10, (decide (zm < 0)), A19, (digs W zm.natAbs).length, c19, (digs W zm.natAbs)⟩, ⟨w.heap.size + 1 + 1, nc, A7, m_c, c7, l_c⟩, ⟨w.heap.size + 1, nb, A5, m_b, c5, l_b⟩, ⟨w.heap.size, na, A3, m_a, c3, l_a⟩] ∧ Old ((w19'.setCell ⟨g10, 0, none⟩ (.bool (decide (zm < 0)))).setCell ⟨g10, 1, none⟩ (.slice A19 (digs W zm.natAbs).length c19)) [⟨g13, (decide (zab < 0)), A13, (digs W zab.natAbs).length, c13, (digs W zab.natAbs)⟩, ⟨g10, (decide (zm < 0)), A19, (digs W zm.natAbs).length, c19, (digs W zm.natAbs)⟩, ⟨w.heap.size + 1 + 1, nc, A7, m_c, c7, l_c⟩, ⟨w.heap.size + 1, nb, A5, m_b, c5, l_b⟩, ⟨w.heap.size, na, A3, m_a, c3, l_a⟩]) := Lib.hid (Env.call_set HN16.out.1 HN16.out.2 hb19 ho19 (dig_digs (by decide) _) rfl 1 rfl)
  clear ho19 hb19 x17a x17b x17c x17d x18a x18b x18c x18d
  go_upto_region 9 with fail
  generalize ((w19'.setCell ⟨g10, 0, none⟩ (.bool (decide (zm < 0)))).setCell ⟨g10, 1, none⟩ (.slice A19 (digs W zm.natAbs).length c19)) = w19 at *
  clear y19a y19b y19c y19d
  go_upto_region 9 with fail
  obtain ⟨x20a, x20b, x20c, x20d⟩ := (HN19.out.1.x (.tail _ (.tail _ (.tail _ (.head _))))).facts
  obtain ⟨x21a, x21b, x21c, x21d⟩ := (HN19.out.1.x (.tail _ (.tail _ (.tail _ (.tail _ (.head _)))))).facts
  go_wp2_with fail
  refine (Mul_z (HN19.out.1.s (.tail _ (.tail _ (.tail _ (.head _))))) (HN19.out.1.s (.tail _ (.tail _ (.tail _ (.tail _ (.head _)))))) (Nat.le_trans HM_b.out.2.1 (by decide)) (Nat.le_trans HM_a.out.2.1 (by decide)) HI_b.out HI_a.out E2.out T_zb.out T_za.out T_zm.out).mono ?_
  rintro ex w22' ⟨v, rfl, ⟨A22, c22, rfl, ho22⟩, hb22⟩
  obtain ⟨y22a, y22b, y22c, y22d⟩ := ((HN19.out.1.below hb22).x (.head _)).facts
  have HN22 : Hid (Env w ((w22'.setCell ⟨g13, 0, none⟩ (.bool (decide (zm < 0)))).setCell ⟨g13, 1, none⟩ (.slice A22 (digs W zm.natAbs).length c22)) [⟨g13, (decide (zm < 0)), A22, (digs W zm.natAbs).length, c22, (digs W zm.natAbs)⟩, ⟨g10, (decide (zm < 0)), A19, (digs W zm.natAbs).length, c19, (digs W zm.natAbs)⟩, ⟨w.heap.size + 1 + 1, nc, A7, m_c, c7, l_c⟩, ⟨w.heap.size + 1, nb, A5, m_b, c5, l_b⟩, ⟨w.heap.size, na, A3, m_a, c3, l_a⟩] ∧ Old ((w22'.setCell ⟨g13, 0, none⟩ (.bool (decide (zm < 0)))).setCell ⟨g13, 1, none⟩ (.slice A22 (digs W zm.natAbs).length c22)) [⟨g13, (decide (zm < 0)), A22, (digs W zm.natAbs).length, c22, (digs W zm.natAbs)⟩, ⟨g10, (decide (zm < 0)), A19, (digs W zm.natAbs).length, c19, (digs W zm.natAbs)⟩, ⟨w.heap.size + 1 + 1, nc, A7, m_c, c7, l_c⟩, ⟨w.heap.size + 1, nb, A5, m_b, c5, l_b⟩, ⟨w.heap.size, na, A3, m_a, c3, l_a⟩]) := Lib.hid (Env.call_set HN19.out.1 HN19.out.2 hb22 ho22 (dig_digs (by decide) _) rfl 0 rfl)
  clear ho22 hb22 x20a x20b x20c x20d x21a x21b x21c x21d
  go_upto_region 10 with fail
  generalize ((w22'.setCell ⟨g13, 0, none⟩ (.bool (decide (zm < 0)))).setCell ⟨g13, 1, none⟩ (.slice A22 (digs W zm.natAbs).length c22)) = w22 at *
  clear y22a y22b y22c y22d
  go_upto_region 10 with fail
  obtain ⟨x23a, x23b, x23c, x23d⟩ := (HN22.out.1.x (.tail _ (.head _))).facts
  obtain ⟨x24a, x24b, x24c, x24d⟩ := (HN22.out.1.x (.head _)).facts
  go_wp2_with fail
  refine (same_z (HN22.out.1.s (.tail _ (.head _))) (HN22.out.1.s (.head _)) (ival_digs zm) (ival_digs zm)).mono ?_
  rintro ex w25' ⟨rfl, hb25⟩
  have HN25 : Hid (Env w w25' [⟨g13, (decide (zm < 0)), A22, (digs W zm.natAbs).length, c22, (digs W zm.natAbs)⟩, ⟨g10, (decide (zm < 0)), A19, (digs W zm.natAbs).length, c19, (digs W zm.natAbs)⟩, ⟨w.heap.size + 1 + 1, nc, A7, m_c, c7, l_c⟩, ⟨w.heap.size + 1, nb, A5, m_b, c5, l_b⟩, ⟨w.heap.size, na, A3, m_a, c3, l_a⟩] ∧ Old w25' [⟨g13, (decide (zm < 0)), A22, (digs W zm.natAbs).length, c22, (digs W zm.natAbs)⟩, ⟨g10, (decide (zm < 0)), A19, (digs W zm.natAbs).length, c19, (digs W zm.natAbs)⟩, ⟨w.heap.size + 1 + 1, nc, A7, m_c, c7, l_c⟩, ⟨w.heap.size + 1, nb, A5, m_b, c5, l_b⟩, ⟨w.heap.size, na, A3, m_a, c3, l_a⟩]) := Lib.hid ⟨HN22.out.1.below hb25, HN22.out.2.below hb25⟩
  clear hb25 x23a x23b x23c x23d x24a x24b x24c x24d
  go_upto_region 11 with fail
  go_upto_region 11 with fail
  obtain ⟨x26a, x26b, x26c, x26d⟩ := (HN25.out.1.x (.tail _ (.tail _ (.tail _ (.head _))))).facts
  obtain ⟨x27a, x27b, x27c, x27d⟩ := (HN25.out.1.x (.tail _ (.tail _ (.head _)))).facts
  go_wp2_with fail
  refine (Add_z (HN25.out.1.s (.tail _ (.tail _ (.tail _ (.head _))))) (HN25.out.1.s (.tail _ (.tail _ (.head _)))) (Nat.le_trans HM_b.out.2.1 (by decide)) (Nat.le_trans HM_c.out.2.1 (by decide)) HI_b.out HI_c.out E_zs.out T_zb.out T_zc.out T_zs.out).mono ?_
  rintro ex w28' ⟨v, rfl, ⟨A28, c28, rfl, ho28⟩, hb28⟩
  have HN28 : Hid (Env w (w28'.alloc (.cells #[.bool (decide (zs < 0)), .slice A28 (digs W zs.natAbs).length c28] 24)) [⟨w28'.heap.size, (decide (zs < 0)), A28, (digs W zs.natAbs).length, c28, (digs W zs.natAbs)⟩, ⟨g13, (decide (zm < 0)), A22, (digs W zm.natAbs).length, c22, (digs W zm.natAbs)⟩, ⟨g10, (decide (zm < 0)), A19, (digs W zm.natAbs).length, c19, (digs W zm.natAbs)⟩, ⟨w.heap.size + 1 + 1, nc, A7, m_c, c7, l_c⟩, ⟨w.heap.size + 1, nb, A5, m_b, c5, l_b⟩, ⟨w.heap.size, na, A3, m_a, c3, l_a⟩] ∧ Old (w28'.alloc (.cells #[.bool (decide (zs < 0)), .slice A28 (digs W zs.natAbs).length c28] 24)) [⟨w28'.heap.size, (decide (zs < 0)), A28, (digs W zs.natAbs).length, c28, (digs W zs.natAbs)⟩, ⟨g13, (decide (zm < 0)), A22, (digs W zm.natAbs).length, c22, (digs W zm.natAbs)⟩, ⟨g10, (decide (zm < 0)), A19, (digs W zm.natAbs).length, c19, (digs W zm.natAbs)⟩, ⟨w.heap.size + 1 + 1, nc, A7, m_c, c7, l_c⟩, ⟨w.heap.size + 1, nb, A5, m_b, c5, l_b⟩, ⟨w.heap.size, na, A3, m_a, c3, l_a⟩]) := Lib.hid (Env.call_push HN25.out.1 HN25.out.2 hb28 ho28 (dig_digs (by decide) _) rfl)
  clear ho28 hb28 x26a x26b x26c x26d x27a x27b x27c x27d
  go_upto_region 12 with fail
  generalize (w28'.alloc (.cells #[.bool (decide (zs < 0)), .slice A28 (digs W zs.natAbs).length c28] 24)) = w28 at *
  generalize w28'.heap.size = g28 at *
  go_upto_region 12 with fail
  obtain ⟨x29a, x29b, x29c, x29d⟩ := (HN28.out.1.x (.tail _ (.tail _ (.tail _ (.tail _ (.tail _ (.head _))))))).facts
  obtain ⟨x30a, x30b, x30c, x30d⟩ := (HN28.out.1.x (.head _)).facts
  go_wp2_with fail
  refine (Mul_z (HN28.out.1.s (.tail _ (.tail _ (.tail _ (.tail _ (.tail _ (.head _))))))) (HN28.out.1.s (.head _)) (Nat.le_trans HM_a.out.2.1 (by decide)) (Nat.le_trans (not_too_len T_zs.out) (by decide)) HI_a.out (ival_digs zs) E3.out T_za.out T_zs.out T_zam.out).mono ?_
  rintro ex w31' ⟨v, rfl, ⟨A31, c31, rfl, ho31⟩, hb31⟩
  obtain ⟨y31a, y31b, y31c, y31d⟩ := ((HN28.out.1.below hb31).x (.tail _ (.tail _ (.head _)))).facts
  have HN31 : Hid (Env w ((w31'.setCell ⟨g10, 0, none⟩ (.bool (decide (zam < 0)))).setCell ⟨g10, 1, none⟩ (.slice A31 (digs W zam.natAbs).length c31)) [⟨g28, (decide (zs < 0)), A28, (digs W zs.natAbs).length, c28, (digs W zs.natAbs)⟩, ⟨g13, (decide (zm < 0)), A22, (digs W zm.natAbs).length, c22, (digs W zm.natAbs)⟩, ⟨g10, (decide (zam < 0)), A31, (digs W zam.natAbs).length, c31, (digs W zam.natAbs)⟩, ⟨w.heap.size + 1 + 1, nc, A7, m_c, c7, l_c⟩, ⟨w.heap.size + 1, nb, A5, m_b, c5, l_b⟩, ⟨w.heap.size, na, A3, m_a, c3, l_a⟩] ∧ Old ((w31'.setCell ⟨g10, 0, none⟩ (.bool (decide (zam < 0)))).setCell ⟨g10, 1, none⟩ (.slice A31 (digs W zam.natAbs).length c31)) [⟨g28, (decide (zs < 0)), A28, (digs W zs.natAbs).length, c28, (digs W zs.natAbs)⟩, ⟨g13, (decide (zm < 0)), A22, (digs W zm.natAbs).length, c22, (digs W zm.natAbs)⟩, ⟨g10, (decide (zam < 0)), A31, (digs W zam.natAbs).length, c31, (digs W zam.natAbs)⟩, ⟨w.heap.size + 1 + 1, nc, A7, m_c, c7, l_c⟩, ⟨w.heap.size + 1, nb, A5, m_b, c5, l_b⟩, ⟨w.heap.size, na, A3, m_a, c3, l_a⟩]) := Lib.hid (Env.call_set HN28.out.1 HN28.out.2 hb31 ho31 (dig_digs (by decide) _) rfl 2 rfl)
  clear ho31 hb31 x29a x29b x29c x29d x30a x30b x30c x30d
  go_upto_region 13 with fail
  generalize ((w31'.setCell ⟨g10, 0, none⟩ (.bool (decide (zam < 0)))).setCell ⟨g10, 1, none⟩ (.slice A31 (digs W zam.natAbs).length c31)) = w31 at *
  clear y31a y31b y31c y31d
  go_upto_region 13 with fail
  obtain ⟨x32a, x32b, x32c, x32d⟩ := (HN31.out.1.x (.tail _ (.tail _ (.tail _ (.tail _ (.tail _ (.head _))))))).facts
  obtain ⟨x33a, x33b, x33c, x33d⟩ := (HN31.out.1.x (.tail _ (.tail _ (.tail _ (.tail _ (.head _)))))).facts
  go_wp2_with fail
  refine (Mul_z (HN31.out.1.s (.tail _ (.tail _ (.tail _ (.tail _ (.tail _ (.head _))))))) (HN31.out.1.s (.tail _ (.tail _ (.tail _ (.tail _ (.head _)))))) (Nat.le_trans HM_a.out.2.1 (by decide)) (Nat.le_trans HM_b.out.2.1 (by decide)) HI_a.out HI_b.out E_zm.out T_za.out T_zb.out T_zm.out).mono ?_
  rintro ex w34' ⟨v, rfl, ⟨A34, c34, rfl, ho34⟩, hb34⟩
  have HN34 : Hid (Env w (w34'.alloc (.cells #[.bool (decide (zm < 0)), .slice A34 (digs W zm.natAbs).length c34] 24)) [⟨w34'.heap.size, (decide (zm < 0)), A34, (digs W zm.natAbs).length, c34, (digs W zm.natAbs)⟩, ⟨g28, (decide (zs < 0)), A28, (digs W zs.natAbs).length, c28, (digs W zs.natAbs)⟩, ⟨g13, (decide (zm < 0)), A22, (digs W zm.natAbs).length, c22, (digs W zm.natAbs)⟩, ⟨g10, (decide (zam < 0)), A31, (digs W zam.natAbs).length, c31, (digs W zam.natAbs)⟩, ⟨w.heap.size + 1 + 1, nc, A7, m_c, c7, l_c⟩, ⟨w.heap.size + 1, nb, A5, m_b, c5, l_b⟩, ⟨w.heap.size, na, A3, m_a, c3, l_a⟩] ∧ Old (w34'.alloc (.cells #[.bool (decide (zm < 0)), .slice A34 (digs W zm.natAbs).length c34] 24)) [⟨w34'.heap.size, (decide (zm < 0)), A34, (digs W zm.natAbs).length, c34, (digs W zm.natAbs)⟩, ⟨g28, (decide (zs < 0)), A28, (digs W zs.natAbs).length, c28, (digs W zs.natAbs)⟩, ⟨g13, (decide (zm < 0)), A22, (digs W zm.natAbs).length, c22, (digs W zm.natAbs)⟩, ⟨g10, (decide (zam < 0)), A31, (digs W zam.natAbs).length, c31, (digs W zam.natAbs)⟩, ⟨w.heap.size + 1 + 1, nc, A7, m_c, c7, l_c⟩, ⟨w.heap.size + 1, nb, A5, m_b, c5, l_b⟩, ⟨w.heap.size, na, A3, m_a, c3, l_a⟩]) := Lib.hid (Env.call_push HN31.out.1 HN31.out.2 hb34 ho34 (dig_digs (by decide) _) rfl)
  clear ho34 hb34 x32a x32b x32c x32d x33a x33b x33c x33d
  go_upto_region 14 with fail
  generalize (w34'.alloc (.cells #[.bool (decide (zm < 0)), .slice A34 (digs W zm.natAbs).length c34] 24)) = w34 at *
  generalize w34'.heap.size = g34 at *
  go_upto_region 14 with fail
  obtain ⟨x35a, x35b, x35c, x35d⟩ := (HN34.out.1.x (.tail _ (.tail _ (.tail _ (.tail _ (.tail _ (.tail _ (.head _)))))))).facts
  obtain ⟨x36a, x36b, x36c, x36d⟩ := (HN34.out.1.x (.tail _ (.tail _ (.tail _ (.tail _ (.head _)))))).facts
  go_wp2_with fail
  refine (Mul_z (HN34.out.1.s (.tail _ (.tail _ (.tail _ (.tail _ (.tail _ (.tail _ (.head _)))))))) (HN34.out.1.s (.tail _ (.tail _ (.tail _ (.tail _ (.head _)))))) (Nat.le_trans HM_a.out.2.1 (by decide)) (Nat.le_trans HM_c.out.2.1 (by decide)) HI_a.out HI_c.out E_zac.out T_za.out T_zc.out T_zac.out).mono ?_
  rintro ex w37' ⟨v, rfl, ⟨A37, c37, rfl, ho37⟩, hb37⟩
  have HN37 : Hid (Env w (w37'.alloc (.cells #[.bool (decide (zac < 0)), .slice A37 (digs W zac.natAbs).length c37] 24)) [⟨w37'.heap.size, (decide (zac < 0)), A37, (digs W zac.natAbs).length, c37, (digs W zac.natAbs)⟩, ⟨g34, (decide (zm < 0)), A34, (digs W zm.natAbs).length, c34, (digs W zm.natAbs)⟩, ⟨g28, (decide (zs < 0)), A28, (digs W zs.natAbs).length, c28, (digs W zs.natAbs)⟩, ⟨g13, (decide (zm < 0)), A22, (digs W zm.natAbs).length, c22, (digs W zm.natAbs)⟩, ⟨g10, (decide (zam < 0)), A31, (digs W zam.natAbs).length, c31, (digs W zam.natAbs)⟩, ⟨w.heap.size + 1 + 1, nc, A7, m_c, c7, l_c⟩, ⟨w.heap.size + 1, nb, A5, m_b, c5, l_b⟩, ⟨w.heap.size, na, A3, m_a, c3, l_a⟩] ∧ Old (w37'.alloc (.cells #[.bool (decide (zac < 0)), .slice A37 (digs W zac.natAbs).length c37] 24)) [⟨w37'.heap.size, (decide (zac < 0)), A37, (digs W zac.natAbs).length, c37, (digs W zac.natAbs)⟩, ⟨g34, (decide (zm < 0)), A34, (digs W zm.natAbs).length, c34, (digs W zm.natAbs)⟩, ⟨g28, (decide (zs < 0)), A28, (digs W zs.natAbs).length, c28, (digs W zs.natAbs)⟩, ⟨g13, (decide (zm < 0)), A22, (digs W zm.natAbs).length, c22, (digs W zm.natAbs)⟩, ⟨g10, (decide (zam < 0)), A31, (digs W zam.natAbs).length, c31, (digs W zam.natAbs)⟩, ⟨w.heap.size + 1 + 1, nc, A7, m_c, c7, l_c⟩, ⟨w.heap.size + 1, nb, A5, m_b, c5, l_b⟩, ⟨w.heap.size, na, A3, m_a, c3, l_a⟩]) := Lib.hid (Env.call_push HN34.out.1 HN34.out.2 hb37 ho37 (dig_digs (by decide) _) rfl)
  clear ho37 hb37 x35a x35b x35c x35d x36a x36b x36c x36d
  go_upto_region 15 with fail
  generalize (w37'.alloc (.cells #[.bool (decide (zac < 0)), .slice A37 (digs W zac.natAbs).length c37] 24)) = w37 at *
  generalize w37'.heap.size = g37 at *
  go_upto_region 15 with fail
  obtain ⟨x38a, x38b, x38c, x38d⟩ := (HN37.out.1.x (.tail _ (.head _))).facts
  obtain ⟨x39a, x39b, x39c, x39d⟩ := (HN37.out.1.x (.head _)).facts
  go_wp2_with fail
  refine (Add_z (HN37.out.1.s (.tail _ (.head _))) (HN37.out.1.s (.head _)) (Nat.le_trans (not_too_len T_zm.out) (by decide)) (Nat.le_trans (not_too_len T_zac.out) (by decide)) (ival_digs zm) (ival_digs zac) E_zam.out T_zm.out T_zac.out T_zam.out).mono ?_
  rintro ex w40' ⟨v, rfl, ⟨A40, c40, rfl, ho40⟩, hb40⟩
  obtain ⟨y40a, y40b, y40c, y40d⟩ := ((HN37.out.1.below hb40).x (.tail _ (.tail _ (.tail _ (.head _))))).facts
  have HN40 : Hid (Env w ((w40'.setCell ⟨g13, 0, none⟩ (.bool (decide (zam < 0)))).setCell ⟨g13, 1, none⟩ (.slice A40 (digs W zam.natAbs).length c40)) [⟨g37, (decide (zac < 0)), A37, (digs W zac.natAbs).length, c37, (digs W zac.natAbs)⟩, ⟨g34, (decide (zm < 0)), A34, (digs W zm.natAbs).length, c34, (digs W zm.natAbs)⟩, ⟨g28, (decide (zs < 0)), A28, (digs W zs.natAbs).length, c28, (digs W zs.natAbs)⟩, ⟨g13, (decide (zam < 0)), A40, (digs W zam.natAbs).length, c40, (digs W zam.natAbs)⟩, ⟨g10, (decide (zam < 0)), A31, (digs W zam.natAbs).length, c31, (digs W zam.natAbs)⟩, ⟨w.heap.size + 1 + 1, nc, A7, m_c, c7, l_c⟩, ⟨w.heap.size + 1, nb, A5, m_b, c5, l_b⟩, ⟨w.heap.size, na, A3, m_a, c3, l_a⟩] ∧ Old ((w40'.setCell ⟨g13, 0, none⟩ (.bool (decide (zam < 0)))).setCell ⟨g13, 1, none⟩ (.slice A40 (digs W zam.natAbs).length c40)) [⟨g37, (decide (zac < 0)), A37, (digs W zac.natAbs).length, c37, (digs W zac.natAbs)⟩, ⟨g34, (decide (zm < 0)), A34, (digs W zm.natAbs).length, c34, (digs W zm.natAbs)⟩, ⟨g28, (decide (zs < 0)), A28, (digs W zs.natAbs).length, c28, (digs W zs.natAbs)⟩, ⟨g13, (decide (zam < 0)), A40, (digs W zam.natAbs).length, c40, (digs W zam.natAbs)⟩, ⟨g10, (decide (zam < 0)), A31, (digs W zam.natAbs).length, c31, (digs W zam.natAbs)⟩, ⟨w.heap.size + 1 + 1, nc, A7, m_c, c7, l_c⟩, ⟨w.heap.size + 1, nb, A5, m_b, c5, l_b⟩, ⟨w.heap.size, na, A3, m_a, c3, l_a⟩]) := Lib.hid (Env.call_set HN37.out.1 HN37.out.2 hb40 ho40 (dig_digs (by decide) _) rfl 3 rfl)
  clear ho40 hb40 x38a x38b x38c x38d x39a x39b x39c x39d
  go_upto_region 16 with fail
  generalize ((w40'.setCell ⟨g13, 0, none⟩ (.bool (decide (zam < 0)))).setCell ⟨g13, 1, none⟩ (.slice A40 (digs W zam.natAbs).length c40)) = w40 at *
  clear y40a y40b y40c y40d
  go_upto_region 16 with fail
  obtain ⟨x41a, x41b, x41c, x41d⟩ := (HN40.out.1.x (.tail _ (.tail _ (.tail _ (.tail _ (.head _)))))).facts
  obtain ⟨x42a, x42b, x42c, x42d⟩ := (HN40.out.1.x (.tail _ (.tail _ (.tail _ (.head _))))).facts
  go_wp2_with fail
  refine (same_z (HN40.out.1.s (.tail _ (.tail _ (.tail _ (.tail _ (.head _)))))) (HN40.out.1.s (.tail _ (.tail _ (.tail _ (.head _))))) (ival_digs zam) (ival_digs zam)).mono ?_
  rintro ex w43' ⟨rfl, hb43⟩
  have HN43 : Hid (Env w w43' [⟨g37, (decide (zac < 0)), A37, (digs W zac.natAbs).length, c37, (digs W zac.natAbs)⟩, ⟨g34, (decide (zm < 0)), A34, (digs W zm.natAbs).length, c34, (digs W zm.natAbs)⟩, ⟨g28, (decide (zs < 0)), A28, (digs W zs.natAbs).length, c28, (digs W zs.natAbs)⟩, ⟨g13, (decide (zam < 0)), A40, (digs W zam.natAbs).length, c40, (digs W zam.natAbs)⟩, ⟨g10, (decide (zam < 0)), A31, (digs W zam.natAbs).length, c31, (digs W zam.natAbs)⟩, ⟨w.heap.size + 1 + 1, nc, A7, m_c, c7, l_c⟩, ⟨w.heap.size + 1, nb, A5, m_b, c5, l_b⟩, ⟨w.heap.size, na, A3, m_a, c3, l_a⟩] ∧ Old w43' [⟨g37, (decide (zac < 0)), A37, (digs W zac.natAbs).length, c37, (digs W zac.natAbs)⟩, ⟨g34, (decide (zm < 0)), A34, (digs W zm.natAbs).length, c34, (digs W zm.natAbs)⟩, ⟨g28, (decide (zs < 0)), A28, (digs W zs.natAbs).length, c28, (digs W zs.natAbs)⟩, ⟨g13, (decide (zam < 0)), A40, (digs W zam.natAbs).length, c40, (digs W zam.natAbs)⟩, ⟨g10, (decide (zam < 0)), A31, (digs W zam.natAbs).length, c31, (digs W zam.natAbs)⟩, ⟨w.heap.size + 1 + 1, nc, A7, m_c, c7, l_c⟩, ⟨w.heap.size + 1, nb, A5, m_b, c5, l_b⟩, ⟨w.heap.size, na, A3, m_a, c3, l_a⟩]) := Lib.hid ⟨HN40.out.1.below hb43, HN40.out.2.below hb43⟩
  clear hb43 x41a x41b x41c x41d x42a x42b x42c x42d
  go_upto_region 17 with fail
  go_upto_region 17 with fail
  obtain ⟨x44a, x44b, x44c, x44d⟩ := (HN43.out.1.x (.tail _ (.tail _ (.tail _ (.tail _ (.tail _ (.tail _ (.tail _ (.head _))))))))).facts
  obtain ⟨x45a, x45b, x45c, x45d⟩ := (HN43.out.1.x (.tail _ (.tail _ (.tail _ (.tail _ (.tail _ (.tail _ (.head _)))))))).facts
  go_wp2_with fail
  refine (Sub_z (HN43.out.1.s (.tail _ (.tail _ (.tail _ (.tail _ (.tail _ (.tail _ (.tail _ (.head _))))))))) (HN43.out.1.s (.tail _ (.tail _ (.tail _ (.tail _ (.tail _ (.tail _ (.head _)))))))) (Nat.le_trans HM_a.out.2.1 (by decide)) (Nat.le_trans HM_b.out.2.1 (by decide)) HI_a.out HI_b.out E_zd.out T_za.out T_zb.out T_zd.out).mono ?_
  rintro ex w46' ⟨v, rfl, ⟨A46, c46, rfl, ho46⟩, hb46⟩
  have HN46 : Hid (Env w (w46'.alloc (.cells #[.bool (decide (zd < 0)), .slice A46 (digs W zd.natAbs).length c46] 24)) [⟨w46'.heap.size, (decide (zd < 0)), A46, (digs W zd.natAbs).length, c46, (digs W zd.natAbs)⟩, ⟨g37, (decide (zac < 0)), A37, (digs W zac.natAbs).length, c37, (digs W zac.natAbs)⟩, ⟨g34, (decide (zm < 0)), A34, (digs W zm.natAbs).length, c34, (digs W zm.natAbs)⟩, ⟨g28, (decide (zs < 0)), A28, (digs W zs.natAbs).length, c28, (digs W zs.natAbs)⟩, ⟨g13, (decide (zam < 0)), A40, (digs W zam.natAbs).length, c40, (digs W zam.natAbs)⟩, ⟨g10, (decide (zam < 0)), A31, (digs W zam.natAbs).length, c31, (digs W zam.natAbs)⟩, ⟨w.heap.size + 1 + 1, nc, A7, m_c, c7, l_c⟩, ⟨w.heap.size + 1, nb, A5, m_b, c5, l_b⟩, ⟨w.heap.size, na, A3, m_a, c3, l_a⟩] ∧ Old (w46'.alloc (.cells #[.bool (decide (zd < 0)), .slice A46 (digs W zd.natAbs).length c46] 24)) [⟨w46'.heap.size, (decide (zd < 0)), A46, (digs W zd.natAbs).length, c46, (digs W zd.natAbs)⟩, ⟨g37, (decide (zac < 0)), A37, (digs W zac.natAbs).length, c37, (digs W zac.natAbs)⟩, ⟨g34, (decide (zm < 0)), A34, (digs W zm.natAbs).length, c34, (digs W zm.natAbs)⟩, ⟨g28, (decide (zs < 0)), A28, (digs W zs.natAbs).length, c28, (digs W zs.natAbs)⟩, ⟨g13, (decide (zam < 0)), A40, (digs W zam.natAbs).length, c40, (digs W zam.natAbs)⟩, ⟨g10, (decide (zam < 0)), A31, (digs W zam.natAbs).length, c31, (digs W zam.natAbs)⟩, ⟨w.heap.size + 1 + 1, nc, A7, m_c, c7, l_c⟩, ⟨w.heap.size + 1, nb, A5, m_b, c5, l_b⟩, ⟨w.heap.size, na, A3, m_a, c3, l_a⟩]) := Lib.hid (Env.call_push HN43.out.1 HN43.out.2 hb46 ho46 (dig_digs (by decide) _) rfl)
  clear ho46 hb46 x44a x44b x44c x44d x45a x45b x45c x45d
  go_upto_region 18 with fail
  generalize (w46'.alloc (.cells #[.bool (decide (zd < 0)), .slice A46 (digs W zd.natAbs).length c46] 24)) = w46 at *
  generalize w46'.heap.size = g46 at *
  go_upto_region 18 with fail
  obtain ⟨x47a, x47b, x47c, x47d⟩ := (HN46.out.1.x (.head _)).facts
  obtain ⟨x48a, x48b, x48c, x48d⟩ := (HN46.out.1.x (.tail _ (.tail _ (.tail _ (.tail _ (.tail _ (.tail _ (.tail _ (.head _))))))))).facts
  go_wp2_with fail
  refine (Add_z (HN46.out.1.s (.head _)) (HN46.out.1.s (.tail _ (.tail _ (.tail _ (.tail _ (.tail _ (.tail _ (.tail _ (.head _))))))))) (Nat.le_trans (not_too_len T_zd.out) (by decide)) (Nat.le_trans HM_b.out.2.1 (by decide)) (ival_digs zd) HI_b.out E4.out T_zd.out T_zb.out T_za.out).mono ?_
  rintro ex w49' ⟨v, rfl, ⟨A49, c49, rfl, ho49⟩, hb49⟩
  obtain ⟨y49a, y49b, y49c, y49d⟩ := ((HN46.out.1.below hb49).x (.tail _ (.tail _ (.tail _ (.tail _ (.tail _ (.head _))))))).facts
  have HN49 : Hid (Env w ((w49'.setCell ⟨g10, 0, none⟩ (.bool (decide (za < 0)))).setCell ⟨g10, 1, none⟩ (.slice A49 (digs W za.natAbs).length c49)) [⟨g46, (decide (zd < 0)), A46, (digs W zd.natAbs).length, c46, (digs W zd.natAbs)⟩, ⟨g37, (decide (zac < 0)), A37, (digs W zac.natAbs).length, c37, (digs W zac.natAbs)⟩, ⟨g34, (decide (zm < 0)), A34, (digs W zm.natAbs).length, c34, (digs W zm.natAbs)⟩, ⟨g28, (decide (zs < 0)), A28, (digs W zs.natAbs).length, c28, (digs W zs.natAbs)⟩, ⟨g13, (decide (zam < 0)), A40, (digs W zam.natAbs).length, c40, (digs W zam.natAbs)⟩, ⟨g10, (decide (za < 0)), A49, (digs W za.natAbs).length, c49, (digs W za.natAbs)⟩, ⟨w.heap.size + 1 + 1, nc, A7, m_c, c7, l_c⟩, ⟨w.heap.size + 1, nb, A5, m_b, c5, l_b⟩, ⟨w.heap.size, na, A3, m_a, c3, l_a⟩] ∧ Old ((w49'.setCell ⟨g10, 0, none⟩ (.bool (decide (za < 0)))).setCell ⟨g10, 1, none⟩ (.slice A49 (digs W za.natAbs).length c49)) [⟨g46, (decide (zd < 0)), A46, (digs W zd.natAbs).length, c46, (digs W zd.natAbs)⟩, ⟨g37, (decide (zac < 0)), A37, (digs W zac.natAbs).length, c37, (digs W zac.natAbs)⟩, ⟨g34, (decide (zm < 0)), A34, (digs W zm.natAbs).length, c34, (digs W zm.natAbs)⟩, ⟨g28, (decide (zs < 0)), A28, (digs W zs.natAbs).length, c28, (digs W zs.natAbs)⟩, ⟨g13, (decide (zam < 0)), A40, (digs W zam.natAbs).length, c40, (digs W zam.natAbs)⟩, ⟨g10, (decide (za < 0)), A49, (digs W za.natAbs).length, c49, (digs W za.natAbs)⟩, ⟨w.heap.size + 1 + 1, nc, A7, m_c, c7, l_c⟩, ⟨w.heap.size + 1, nb, A5, m_b, c5, l_b⟩, ⟨w.heap.size, na, A3, m_a, c3, l_a⟩]) := Lib.hid (Env.call_set HN46.out.1 HN46.out.2 hb49 ho49 (dig_digs (by decide) _) rfl 5 rfl)
  clear ho49 hb49 x47a x47b x47c x47d x48a x48b x48c x48d
  go_upto_region 19 with fail
  generalize ((w49'.setCell ⟨g10, 0, none⟩ (.bool (decide (za < 0)))).setCell ⟨g10, 1, none⟩ (.slice A49 (digs W za.natAbs).length c49)) = w49 at *
  clear y49a y49b y49c y49d
  go_upto_region 19 with fail
  obtain ⟨x50a, x50b, x50c, x50d⟩ := (HN49.out.1.x (.tail _ (.tail _ (.tail _ (.tail _ (.tail _ (.head _))))))).facts
  obtain ⟨x51a, x51b, x51c, x51d⟩ := (HN49.out.1.x (.tail _ (.tail _ (.tail _ (.tail _ (.tail _ (.tail _ (.tail _ (.tail _ (.head _)))))))))).facts
  go_wp2_with fail
  refine (same_z (HN49.out.1.s (.tail _ (.tail _ (.tail _ (.tail _ (.tail _ (.head _))))))) (HN49.out.1.s (.tail _ (.tail _ (.tail _ (.tail _ (.tail _ (.tail _ (.tail _ (.tail _ (.head _)))))))))) (ival_digs za) HI_a.out).mono ?_
  rintro ex w52' ⟨rfl, hb52⟩
  have HN52 : Hid (Env w w52' [⟨g46, (decide (zd < 0)), A46, (digs W zd.natAbs).length, c46, (digs W zd.natAbs)⟩, ⟨g37, (decide (zac < 0)), A37, (digs W zac.natAbs).length, c37, (digs W zac.natAbs)⟩, ⟨g34, (decide (zm < 0)), A34, (digs W zm.natAbs).length, c34, (digs W zm.natAbs)⟩, ⟨g28, (decide (zs < 0)), A28, (digs W zs.natAbs).length, c28, (digs W zs.natAbs)⟩, ⟨g13, (decide (zam < 0)), A40, (digs W zam.natAbs).length, c40, (digs W zam.natAbs)⟩, ⟨g10, (decide (za < 0)), A49, (digs W za.natAbs).length, c49, (digs W za.natAbs)⟩, ⟨w.heap.size + 1 + 1, nc, A7, m_c, c7, l_c⟩, ⟨w.heap.size + 1, nb, A5, m_b, c5, l_b⟩, ⟨w.heap.size, na, A3, m_a, c3, l_a⟩] ∧ Old w52' [⟨g46, (decide (zd < 0)), A46, (digs W zd.natAbs).length, c46, (digs W zd.natAbs)⟩, ⟨g37, (decide (zac < 0)), A37, (digs W zac.natAbs).length, c37, (digs W zac.natAbs)⟩, ⟨g34, (decide (zm < 0)), A34, (digs W zm.natAbs).length, c34, (digs W zm.natAbs)⟩, ⟨g28, (decide (zs < 0)), A28, (digs W zs.natAbs).length, c28, (digs W zs.natAbs)⟩, ⟨g13, (decide (zam < 0)), A40, (digs W zam.natAbs).length, c40, (digs W zam.natAbs)⟩, ⟨g10, (decide (za < 0)), A49, (digs W za.natAbs).length, c49, (digs W za.natAbs)⟩, ⟨w.heap.size + 1 + 1, nc, A7, m_c, c7, l_c⟩, ⟨w.heap.size + 1, nb, A5, m_b, c5, l_b⟩, ⟨w.heap.size, na, A3, m_a, c3, l_a⟩]) := Lib.hid ⟨HN49.out.1.below hb52, HN49.out.2.below hb52⟩
  clear hb52 x50a x50b x50c x50d x51a x51b x51c x51d
  go_upto_region 20 with fail
  go_upto_region 20 with fail
  obtain ⟨x53a, x53b, x53c, x53d⟩ := (HN52.out.1.x (.head _)).facts
  obtain ⟨x54a, x54b, x54c, x54d⟩ := (HN52.out.1.x (.tail _ (.tail _ (.tail _ (.tail _ (.tail _ (.tail _ (.tail _ (.tail _ (.head _)))))))))).facts
  obtain ⟨x55a, x55b, x55c, x55d⟩ := (HN52.out.1.x (.tail _ (.tail _ (.tail _ (.tail _ (.tail _ (.tail _ (.tail _ (.head _))))))))).facts
  have hS56 := Lib.hid (fun w' (hb : Below w52'.heap.size w52' w') => (And.intro (And.intro ((HN52.out.1.below hb).x (.head _)).facts.1 ((HN52.out.1.below hb).x (.head _)).facts.2.1) (And.intro (And.intro ((HN52.out.1.below hb).x (.tail _ (.tail _ (.tail _ (.tail _ (.tail _ (.tail _ (.tail _ (.tail _ (.head _)))))))))).facts.1 ((HN52.out.1.below hb).x (.tail _ (.tail _ (.tail _ (.tail _ (.tail _ (.tail _ (.tail _ (.tail _ (.head _)))))))))).facts.2.1) (And.intro ((HN52.out.1.below hb).x (.tail _ (.tail _ (.tail _ (.tail _ (.tail _ (.tail _ (.tail _ (.head _))))))))).facts.1 ((HN52.out.1.below hb).x (.tail _ (.tail _ (.tail _ (.tail _ (.tail _ (.tail _ (.tail _ (.head _))))))))).facts.2.1))))
  go_region_held3 (fun w' => (w'.cell? ⟨g46, 0, none⟩ = some (.bool (decide (zd < 0))) ∧ w'.cell? ⟨g46, 1, none⟩ = some (.slice A46 (digs W zd.natAbs).length c46)) ∧ (w'.cell? ⟨w.heap.size, 0, none⟩ = some (.bool na) ∧ w'.cell? ⟨w.heap.size, 1, none⟩ = some (.slice A3 m_a c3)) ∧ (w'.cell? ⟨w.heap.size + 1, 0, none⟩ = some (.bool nb) ∧ w'.cell? ⟨w.heap.size + 1, 1, none⟩ = some (.slice A5 m_b c5)))
    (first | (go_keep; done) | exact hS56.out _ k56_1 | exact hS56.out _ k56_0 | exact hS56.out _ (Below.refl w52'.heap.size w52').drew)
    (first
      | (go_at_call 42; (refine (Sign_zk (SlU.to (HN52.out.1.s (.head _)) (Below.refl w52'.heap.size w52').drew (Nat.le_refl _)) (ival_digs zd) E7.out).mono ?_); rintro e y56_0 ⟨rfl, hb56_0⟩; have k56_0 : Below w52'.heap.size w52' y56_0 := ((Below.refl w52'.heap.size w52').drew).trans (hb56_0.mono (Nat.le_refl _)))
      | (go_at_call 32; (refine (Cmp_zk (SlU.to (HN52.out.1.s (.tail _ (.tail _ (.tail _ (.tail _ (.tail _ (.tail _ (.tail _ (.tail _ (.head _)))))))))) k56_0 (Nat.le_refl _)) (SlU.to (HN52.out.1.s (.tail _ (.tail _ (.tail _ (.tail _ (.tail _ (.tail _ (.tail _ (.head _))))))))) k56_0 (Nat.le_refl _)) HI_a.out HI_b.out E8.out).mono ?_); rintro e y56_1 ⟨rfl, hb56_1⟩; have k56_1 : Below w52'.heap.size w52' y56_1 := (k56_0).trans (hb56_1.mono (k56_0).size)))
  have HN56 : Hid (Env w y56_1 [⟨g46, (decide (zd < 0)), A46, (digs W zd.natAbs).length, c46, (digs W zd.natAbs)⟩, ⟨g37, (decide (zac < 0)), A37, (digs W zac.natAbs).length, c37, (digs W zac.natAbs)⟩, ⟨g34, (decide (zm < 0)), A34, (digs W zm.natAbs).length, c34, (digs W zm.natAbs)⟩, ⟨g28, (decide (zs < 0)), A28, (digs W zs.natAbs).length, c28, (digs W zs.natAbs)⟩, ⟨g13, (decide (zam < 0)), A40, (digs W zam.natAbs).length, c40, (digs W zam.natAbs)⟩, ⟨g10, (decide (za < 0)), A49, (digs W za.natAbs).length, c49, (digs W za.natAbs)⟩, ⟨w.heap.size + 1 + 1, nc, A7, m_c, c7, l_c⟩, ⟨w.heap.size + 1, nb, A5, m_b, c5, l_b⟩, ⟨w.heap.size, na, A3, m_a, c3, l_a⟩] ∧ Old y56_1 [⟨g46, (decide (zd < 0)), A46, (digs W zd.natAbs).length, c46, (digs W zd.natAbs)⟩, ⟨g37, (decide (zac < 0)), A37, (digs W zac.natAbs).length, c37, (digs W zac.natAbs)⟩, ⟨g34, (decide (zm < 0)), A34, (digs W zm.natAbs).length, c34, (digs W zm.natAbs)⟩, ⟨g28, (decide (zs < 0)), A28, (digs W zs.natAbs).length, c28, (digs W zs.natAbs)⟩, ⟨g13, (decide (zam < 0)), A40, (digs W zam.natAbs).length, c40, (digs W zam.natAbs)⟩, ⟨g10, (decide (za < 0)), A49, (digs W za.natAbs).length, c49, (digs W za.natAbs)⟩, ⟨w.heap.size + 1 + 1, nc, A7, m_c, c7, l_c⟩, ⟨w.heap.size + 1, nb, A5, m_b, c5, l_b⟩, ⟨w.heap.size, na, A3, m_a, c3, l_a⟩]) := Lib.hid ⟨HN52.out.1.below k56_1, HN52.out.2.below k56_1⟩
  clear hb56_0 k56_0 hb56_1 k56_1 x53a x53b x53c x53d x54a x54b x54c x54d x55a x55b x55c x55d
  go_upto_region 21 with fail
  go_upto_region 21 with fail
  obtain ⟨x57a, x57b, x57c, x57d⟩ := (HN56.out.1.x (.tail _ (.tail _ (.head _)))).facts
  obtain ⟨x58a, x58b, x58c, x58d⟩ := (HN56.out.1.x (.tail _ (.tail _ (.tail _ (.tail _ (.tail _ (.tail _ (.head _)))))))).facts
  go_wp2_with fail
  refine (Mul_z (HN56.out.1.s (.tail _ (.tail _ (.head _)))) (HN56.out.1.s (.tail _ (.tail _ (.tail _ (.tail _ (.tail _ (.tail _ (.head _)))))))) (Nat.le_trans (not_too_len T_zm.out) (by decide)) (Nat.le_trans HM_c.out.2.1 (by decide)) (ival_digs zm) HI_c.out E_zp3.out T_zm.out T_zc.out T_zp3.out).mono ?_
  rintro ex w59' ⟨v, rfl, ⟨A59, c59, rfl, ho59⟩, hb59⟩
  obtain ⟨y59a, y59b, y59c, y59d⟩ := ((HN56.out.1.below hb59).x (.tail _ (.tail _ (.tail _ (.tail _ (.tail _ (.head _))))))).facts
  have HN59 : Hid (Env w ((w59'.setCell ⟨g10, 0, none⟩ (.bool (decide (zp3 < 0)))).setCell ⟨g10, 1, none⟩ (.slice A59 (digs W zp3.natAbs).length c59)) [⟨g46, (decide (zd < 0)), A46, (digs W zd.natAbs).length, c46, (digs W zd.natAbs)⟩, ⟨g37, (decide (zac < 0)), A37, (digs W zac.natAbs).length, c37, (digs W zac.natAbs)⟩, ⟨g34, (decide (zm < 0)), A34, (digs W zm.natAbs).length, c34, (digs W zm.natAbs)⟩, ⟨g28, (decide (zs < 0)), A28, (digs W zs.natAbs).length, c28, (digs W zs.natAbs)⟩, ⟨g13, (decide (zam < 0)), A40, (digs W zam.natAbs).length, c40, (digs W zam.natAbs)⟩, ⟨g10, (decide (zp3 < 0)), A59, (digs W zp3.natAbs).length, c59, (digs W zp3.natAbs)⟩, ⟨w.heap.size + 1 + 1, nc, A7, m_c, c7, l_c⟩, ⟨w.heap.size + 1, nb, A5, m_b, c5, l_b⟩, ⟨w.heap.size, na, A3, m_a, c3, l_a⟩] ∧ Old ((w59'.setCell ⟨g10, 0, none⟩ (.bool (decide (zp3 < 0)))).setCell ⟨g10, 1, none⟩ (.slice A59 (digs W zp3.natAbs).length c59)) [⟨g46, (decide (zd < 0)), A46, (digs W zd.natAbs).length, c46, (digs W zd.natAbs)⟩, ⟨g37, (decide (zac < 0)), A37, (digs W zac.natAbs).length, c37, (digs W zac.natAbs)⟩, ⟨g34, (decide (zm < 0)), A34, (digs W zm.natAbs).length, c34, (digs W zm.natAbs)⟩, ⟨g28, (decide (zs < 0)), A28, (digs W zs.natAbs).length, c28, (digs W zs.natAbs)⟩, ⟨g13, (decide (zam < 0)), A40, (digs W zam.natAbs).length, c40, (digs W zam.natAbs)⟩, ⟨g10, (decide (zp3 < 0)), A59, (digs W zp3.natAbs).length, c59, (digs W zp3.natAbs)⟩, ⟨w.heap.size + 1 + 1, nc, A7, m_c, c7, l_c⟩, ⟨w.heap.size + 1, nb, A5, m_b, c5, l_b⟩, ⟨w.heap.size, na, A3, m_a, c3, l_a⟩]) := Lib.hid (Env.call_set HN56.out.1 HN56.out.2 hb59 ho59 (dig_digs (by decide) _) rfl 5 rfl)
  clear ho59 hb59 x57a x57b x57c x57d x58a x58b x58c x58d
  go_upto_region 22 with fail
  generalize ((w59'.setCell ⟨g10, 0, none⟩ (.bool (decide (zp3 < 0)))).setCell ⟨g10, 1, none⟩ (.slice A59 (digs W zp3.natAbs).length c59)) = w59 at *
  clear y59a y59b y59c y59d
  go_upto_region 22 with fail
  obtain ⟨x60a, x60b, x60c, x60d⟩ := (HN59.out.1.x (.tail _ (.tail _ (.tail _ (.tail _ (.tail _ (.tail _ (.tail _ (.head _))))))))).facts
  obtain ⟨x61a, x61b, x61c, x61d⟩ := (HN59.out.1.x (.tail _ (.tail _ (.tail _ (.tail _ (.tail _ (.tail _ (.head _)))))))).facts
  go_wp2_with fail
  refine (Mul_z (HN59.out.1.s (.tail _ (.tail _ (.tail _ (.tail _ (.tail _ (.tail _ (.tail _ (.head _))))))))) (HN59.out.1.s (.tail _ (.tail _ (.tail _ (.tail _ (.tail _ (.tail _ (.head _)))))))) (Nat.le_trans HM_b.out.2.1 (by decide)) (Nat.le_trans HM_c.out.2.1 (by decide)) HI_b.out HI_c.out E_zbc.out T_zb.out T_zc.out T_zbc.out).mono ?_
  rintro ex w62' ⟨v, rfl, ⟨A62, c62, rfl, ho62⟩, hb62⟩
  have HN62 : Hid (Env w (w62'.alloc (.cells #[.bool (decide (zbc < 0)), .slice A62 (digs W zbc.natAbs).length c62] 24)) [⟨w62'.heap.size, (decide (zbc < 0)), A62, (digs W zbc.natAbs).length, c62, (digs W zbc.natAbs)⟩, ⟨g46, (decide (zd < 0)), A46, (digs W zd.natAbs).length, c46, (digs W zd.natAbs)⟩, ⟨g37, (decide (zac < 0)), A37, (digs W zac.natAbs).length, c37, (digs W zac.natAbs)⟩, ⟨g34, (decide (zm < 0)), A34, (digs W zm.natAbs).length, c34, (digs W zm.natAbs)⟩, ⟨g28, (decide (zs < 0)), A28, (digs W zs.natAbs).length, c28, (digs W zs.natAbs)⟩, ⟨g13, (decide (zam < 0)), A40, (digs W zam.natAbs).length, c40, (digs W zam.natAbs)⟩, ⟨g10, (decide (zp3 < 0)), A59, (digs W zp3.natAbs).length, c59, (digs W zp3.natAbs)⟩, ⟨w.heap.size + 1 + 1, nc, A7, m_c, c7, l_c⟩, ⟨w.heap.size + 1, nb, A5, m_b, c5, l_b⟩, ⟨w.heap.size, na, A3, m_a, c3, l_a⟩] ∧ Old (w62'.alloc (.cells #[.bool (decide (zbc < 0)), .slice A62 (digs W zbc.natAbs).length c62] 24)) [⟨w62'.heap.size, (decide (zbc < 0)), A62, (digs W zbc.natAbs).length, c62, (digs W zbc.natAbs)⟩, ⟨g46, (decide (zd < 0)), A46, (digs W zd.natAbs).length, c46, (digs W zd.natAbs)⟩, ⟨g37, (decide (zac < 0)), A37, (digs W zac.natAbs).length, c37, (digs W zac.natAbs)⟩, ⟨g34, (decide (zm < 0)), A34, (digs W zm.natAbs).length, c34, (digs W zm.natAbs)⟩, ⟨g28, (decide (zs < 0)), A28, (digs W zs.natAbs).length, c28, (digs W zs.natAbs)⟩, ⟨g13, (decide (zam < 0)), A40, (digs W zam.natAbs).length, c40, (digs W zam.natAbs)⟩, ⟨g10, (decide (zp3 < 0)), A59, (digs W zp3.natAbs).length, c59, (digs W zp3.natAbs)⟩, ⟨w.heap.size + 1 + 1, nc, A7, m_c, c7, l_c⟩, ⟨w.heap.size + 1, nb, A5, m_b, c5, l_b⟩, ⟨w.heap.size, na, A3, m_a, c3, l_a⟩]) := Lib.hid (Env.call_push HN59.out.1 HN59.out.2 hb62 ho62 (dig_digs (by decide) _) rfl)
  clear ho62 hb62 x60a x60b x60c x60d x61a x61b x61c x61d
  go_upto_region 23 with fail
  generalize (w62'.alloc (.cells #[.bool (decide (zbc < 0)), .slice A62 (digs W zbc.natAbs).length c62] 24)) = w62 at *
  generalize w62'.heap.size = g62 at *
  go_upto_region 23 with fail
  obtain ⟨x63a, x63b, x63c, x63d⟩ := (HN62.out.1.x (.tail _ (.tail _ (.tail _ (.tail _ (.tail _ (.tail _ (.tail _ (.tail _ (.tail _ (.head _))))))))))).facts
  obtain ⟨x64a, x64b, x64c, x64d⟩ := (HN62.out.1.x (.head _)).facts
  go_wp2_with fail
  refine (Mul_z (HN62.out.1.s (.tail _ (.tail _ (.tail _ (.tail _ (.tail _ (.tail _ (.tail _ (.tail _ (.tail _ (.head _))))))))))) (HN62.out.1.s (.head _)) (Nat.le_trans HM_a.out.2.1 (by decide)) (Nat.le_trans (not_too_len T_zbc.out) (by decide)) HI_a.out (ival_digs zbc) E5.out T_za.out T_zbc.out T_zp3.out).mono ?_
  rintro ex w65' ⟨v, rfl, ⟨A65, c65, rfl, ho65⟩, hb65⟩
  obtain ⟨y65a, y65b, y65c, y65d⟩ := ((HN62.out.1.below hb65).x (.tail _ (.tail _ (.tail _ (.tail _ (.tail _ (.head _))))))).facts
  have HN65 : Hid (Env w ((w65'.setCell ⟨g13, 0, none⟩ (.bool (decide (zp3 < 0)))).setCell ⟨g13, 1, none⟩ (.slice A65 (digs W zp3.natAbs).length c65)) [⟨g62, (decide (zbc < 0)), A62, (digs W zbc.natAbs).length, c62, (digs W zbc.natAbs)⟩, ⟨g46, (decide (zd < 0)), A46, (digs W zd.natAbs).length, c46, (digs W zd.natAbs)⟩, ⟨g37, (decide (zac < 0)), A37, (digs W zac.natAbs).length, c37, (digs W zac.natAbs)⟩, ⟨g34, (decide (zm < 0)), A34, (digs W zm.natAbs).length, c34, (digs W zm.natAbs)⟩, ⟨g28, (decide (zs < 0)), A28, (digs W zs.natAbs).length, c28, (digs W zs.natAbs)⟩, ⟨g13, (decide (zp3 < 0)), A65, (digs W zp3.natAbs).length, c65, (digs W zp3.natAbs)⟩, ⟨g10, (decide (zp3 < 0)), A59, (digs W zp3.natAbs).length, c59, (digs W zp3.natAbs)⟩, ⟨w.heap.size + 1 + 1, nc, A7, m_c, c7, l_c⟩, ⟨w.heap.size + 1, nb, A5, m_b, c5, l_b⟩, ⟨w.heap.size, na, A3, m_a, c3, l_a⟩] ∧ Old ((w65'.setCell ⟨g13, 0, none⟩ (.bool (decide (zp3 < 0)))).setCell ⟨g13, 1, none⟩ (.slice A65 (digs W zp3.natAbs).length c65)) [⟨g62, (decide (zbc < 0)), A62, (digs W zbc.natAbs).length, c62, (digs W zbc.natAbs)⟩, ⟨g46, (decide (zd < 0)), A46, (digs W zd.natAbs).length, c46, (digs W zd.natAbs)⟩, ⟨g37, (decide (zac < 0)), A37, (digs W zac.natAbs).length, c37, (digs W zac.natAbs)⟩, ⟨g34, (decide (zm < 0)), A34, (digs W zm.natAbs).length, c34, (digs W zm.natAbs)⟩, ⟨g28, (decide (zs < 0)), A28, (digs W zs.natAbs).length, c28, (digs W zs.natAbs)⟩, ⟨g13, (decide (zp3 < 0)), A65, (digs W zp3.natAbs).length, c65, (digs W zp3.natAbs)⟩, ⟨g10, (decide (zp3 < 0)), A59, (digs W zp3.natAbs).length, c59, (digs W zp3.natAbs)⟩, ⟨w.heap.size + 1 + 1, nc, A7, m_c, c7, l_c⟩, ⟨w.heap.size + 1, nb, A5, m_b, c5, l_b⟩, ⟨w.heap.size, na, A3, m_a, c3, l_a⟩]) := Lib.hid (Env.call_set HN62.out.1 HN62.out.2 hb65 ho65 (dig_digs (by decide) _) rfl 5 rfl)
  clear ho65 hb65 x63a x63b x63c x63d x64a x64b x64c x64d
  go_upto_region 24 with fail
  generalize ((w65'.setCell ⟨g13, 0, none⟩ (.bool (decide (zp3 < 0)))).setCell ⟨g13, 1, none⟩ (.slice A65 (digs W zp3.natAbs).length c65)) = w65 at *
  clear y65a y65b y65c y65d
  go_upto_region 24 with fail
  obtain ⟨x66a, x66b, x66c, x66d⟩ := (HN65.out.1.x (.tail _ (.tail _ (.tail _ (.tail _ (.tail _ (.tail _ (.head _)))))))).facts
  obtain ⟨x67a, x67b, x67c, x67d⟩ := (HN65.out.1.x (.tail _ (.tail _ (.tail _ (.tail _ (.tail _ (.head _))))))).facts
  go_wp2_with fail
  refine (same_z (HN65.out.1.s (.tail _ (.tail _ (.tail _ (.tail _ (.tail _ (.tail _ (.head _)))))))) (HN65.out.1.s (.tail _ (.tail _ (.tail _ (.tail _ (.tail _ (.head _))))))) (ival_digs zp3) (ival_digs zp3)).mono ?_
  rintro ex w68' ⟨rfl, hb68⟩
  have HN68 : Hid (Env w w68' [⟨g62, (decide (zbc < 0)), A62, (digs W zbc.natAbs).length, c62, (digs W zbc.natAbs)⟩, ⟨g46, (decide (zd < 0)), A46, (digs W zd.natAbs).length, c46, (digs W zd.natAbs)⟩, ⟨g37, (decide (zac < 0)), A37, (digs W zac.natAbs).length, c37, (digs W zac.natAbs)⟩, ⟨g34, (decide (zm < 0)), A34, (digs W zm.natAbs).length, c34, (digs W zm.natAbs)⟩, ⟨g28, (decide (zs < 0)), A28, (digs W zs.natAbs).length, c28, (digs W zs.natAbs)⟩, ⟨g13, (decide (zp3 < 0)), A65, (digs W zp3.natAbs).length, c65, (digs W zp3.natAbs)⟩, ⟨g10, (decide (zp3 < 0)), A59, (digs W zp3.natAbs).length, c59, (digs W zp3.natAbs)⟩, ⟨w.heap.size + 1 + 1, nc, A7, m_c, c7, l_c⟩, ⟨w.heap.size + 1, nb, A5, m_b, c5, l_b⟩, ⟨w.heap.size, na, A3, m_a, c3, l_a⟩] ∧ Old w68' [⟨g62, (decide (zbc < 0)), A62, (digs W zbc.natAbs).length, c62, (digs W zbc.natAbs)⟩, ⟨g46, (decide (zd < 0)), A46, (digs W zd.natAbs).length, c46, (digs W zd.natAbs)⟩, ⟨g37, (decide (zac < 0)), A37, (digs W zac.natAbs).length, c37, (digs W zac.natAbs)⟩, ⟨g34, (decide (zm < 0)), A34, (digs W zm.natAbs).length, c34, (digs W zm.natAbs)⟩, ⟨g28, (decide (zs < 0)), A28, (digs W zs.natAbs).length, c28, (digs W zs.natAbs)⟩, ⟨g13, (decide (zp3 < 0)), A65, (digs W zp3.natAbs).length, c65, (digs W zp3.natAbs)⟩, ⟨g10, (decide (zp3 < 0)), A59, (digs W zp3.natAbs).length, c59, (digs W zp3.natAbs)⟩, ⟨w.heap.size + 1 + 1, nc, A7, m_c, c7, l_c⟩, ⟨w.heap.size + 1, nb, A5, m_b, c5, l_b⟩, ⟨w.heap.size, na, A3, m_a, c3, l_a⟩]) := Lib.hid ⟨HN65.out.1.below hb68, HN65.out.2.below hb68⟩
  clear hb68 x66a x66b x66c x66d x67a x67b x67c x67d
  go_upto_region 25 with fail
  go_wp2
  go_ret
  exact ⟨rfl, HN68.out.1.b⟩
end Go.Proofs.Ytggdmhkdmkldoaa

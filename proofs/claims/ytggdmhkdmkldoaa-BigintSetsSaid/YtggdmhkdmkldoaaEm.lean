import Derived.Test.YtggdmhkdmkldoaaEl
namespace Go.Proofs.Ytggdmhkdmkldoaa
open Go.RowKit Hb

/-- a variable that a region has made and filled -/
theorem Env.add {w0 w w' : World} {vs : List VE} (h : Env w0 w vs) (hold : Old w vs) (hb : Below w.heap.size w w') {g : Nat} {neg : Bool} {A : Option Addr} {n c : Nat} {l : List Nat} (hx : Bx w' g (.bool neg) (.slice A n c)) (hg : w.heap.size ≤ g)
    (ho : OwnU w' w.heap.size A n c (u32s l)) (hne : ∀ g', A = some ⟨g', 0, none⟩ → g' ≠ g) (hd : Dig W l) (hl : l.length = n) : Env w0 w' (⟨g, neg, A, n, c, l⟩ :: vs) ∧ Old w' (⟨g, neg, A, n, c, l⟩ :: vs) := by
  have hE := h.below hb
  have hz := hb.size
  have hz0 := h.1.size
  have hold2 := hold.below hb
  refine ⟨⟨hE.1, fun v hv => ?_, ?_⟩, fun v hv hne2 b o e => ?_⟩
  · rcases List.mem_cons.1 hv with rfl | hv
    · refine ⟨Nat.le_trans hz0 hg, hx, Own.sl ho hd hl, fun _ u hu b o e => ?_⟩
      rcases List.mem_cons.1 hu with rfl | hu
      · rcases ho.form with ⟨h1, _⟩ | ⟨g', h1, _⟩
        · rw [h1] at e; cases e
        · have e2 := h1
          rw [e2] at e
          injection e with e
          injection e with e1 _ _
          rw [← e1]; exact hne g' h1
      · have h1 := (own_block ho e).1
        have h2 := (h.x hu).lt
        omega
    · refine ⟨(hE.2.1 v hv).1, hE.x hv, hE.s hv, fun hne2 u hu b o e => ?_⟩
      rcases List.mem_cons.1 hu with rfl | hu
      · have := hold v hv hne2 b o e
        show b ≠ g
        omega
      · exact (hE.2.1 v hv).2.2.2 hne2 u hu b o e
  · simp only [List.map_cons, List.nodup_cons]
    refine ⟨fun hm => ?_, hE.2.2⟩
    obtain ⟨v, hv, e⟩ := List.mem_map.1 hm
    have := (h.x hv).lt
    omega
  · rcases List.mem_cons.1 hv with rfl | hv
    · exact (own_block ho e).2
    · exact hold2 v hv hne2 b o e
theorem xor_back (p q : Bool) : ((p ^^ q) ^^ q) = p := by cases p <;> cases q <;> rfl
theorem and_or_share (p q r : Bool) : (p && (q || r)) = (p && q || p && r) := by cases p <;> cases q <;> cases r <;> rfl

set_option maxRecDepth 100000 in
set_option maxHeartbeats 8000000 in
theorem Sets_main (na nb nc : Bool) {Aa Ab Ac : Option Addr} {la lb lc l_a l_b l_c : List Nat} {n_a ca n_b cb n_c cc m_a m_b m_c K : Nat} {w : World} {za zb zc : Int} (hsa : SlU w w.heap.size Aa n_a ca la) (hsb : SlU w w.heap.size Ab n_b cb lb) (hsc : SlU w w.heap.size Ac n_c cc lc)
    (HFew_a : Hid (∀ w, SlU w w.heap.size Aa n_a ca la → Calls Try.prog 31 #[.agg #[.bool na, .slice Aa n_a ca], .int .i64 100] w (FewQ w na l_a m_a))) (HFew_b : Hid (∀ w, SlU w w.heap.size Ab n_b cb lb → Calls Try.prog 31 #[.agg #[.bool nb, .slice Ab n_b cb], .int .i64 100] w (FewQ w nb l_b m_b))) (HFew_c : Hid (∀ w, SlU w w.heap.size Ac n_c cc lc → Calls Try.prog 31 #[.agg #[.bool nc, .slice Ac n_c cc], .int .i64 100] w (FewQ w nc l_c m_c)))
    (HM_a : Hid (l_a.length = m_a ∧ m_a ≤ 100 ∧ Dig W l_a)) (HM_b : Hid (l_b.length = m_b ∧ m_b ≤ 100 ∧ Dig W l_b)) (HM_c : Hid (l_c.length = m_c ∧ m_c ≤ 100 ∧ Dig W l_c)) (HI_a : Hid (ival na l_a = za)) (HI_b : Hid (ival nb l_b = zb)) (HI_c : Hid (ival nc l_c = zc)) (hK : K ≤ 3200) (Ba : za.natAbs < 2 ^ K) (Bb : zb.natAbs < 2 ^ K) (Bc : zc.natAbs < 2 ^ K) :
    Calls Try.prog 13 #[.agg #[.bool na, .slice Aa n_a ca], .agg #[.bool nb, .slice Ab n_b cb], .agg #[.bool nc, .slice Ac n_c cc]] w fun e w' => e = .returned (.bool true) ∧ Below w.heap.size w w' := by
  have ra := abs_range Ba
  have rb := abs_range Bb
  have rc := abs_range Bc
  obtain ⟨zx, ex, rx⟩ := bit_ex (fun p q => p || q) rb rc
  obtain ⟨zl, el, rl⟩ := bit_ex (fun p q => p && q) ra rx
  obtain ⟨zy, ey, ry⟩ := bit_ex (fun p q => p && q) ra rb
  obtain ⟨zz, ez, rz⟩ := bit_ex (fun p q => p && q) ra rc
  obtain ⟨zv, ev, rv⟩ := bit_ex (fun p q => p ^^ q) ra rb
  obtain ⟨zo, eo, ro⟩ := bit_ex (fun p q => p || q) ra rb
  have ER := Lib.hid (show ∀ i, ib zl i = (ib zy i || ib zz i) from fun i => by rw [el, ex, ey, ez]; exact and_or_share _ _ _)
  have EW := Lib.hid (show ∀ i, ib za i = (ib zv i ^^ ib zb i) from fun i => by rw [ev]; exact (xor_back _ _).symm)
  have hsum := and_or_sum K za zb zy zo (by
    intro v hv
    simp only [List.mem_cons, List.not_mem_nil, or_false] at hv
    rcases hv with rfl | rfl | rfl | rfl
    · exact ra
    · exact rb
    · exact ry
    · exact ro) ey eo
  obtain ⟨zt, hzt⟩ : ∃ z, za + zb = z := ⟨_, rfl⟩
  rw [hzt] at hsum
  obtain ⟨zn, hzn⟩ : ∃ z, -1 - za = z := ⟨_, rfl⟩
  have EX := Lib.hid ex
  have EL := Lib.hid el
  have EY := Lib.hid ey
  have EZ := Lib.hid ez
  have EV := Lib.hid ev
  have EO := Lib.hid eo
  have ES := Lib.hid hsum
  have ET := Lib.hid hzt
  have EN := Lib.hid hzn
  have T_za := Lib.hid (tooLong_lt K (by omega) Ba)
  have T_zb := Lib.hid (tooLong_lt K (by omega) Bb)
  have T_zc := Lib.hid (tooLong_lt K (by omega) Bc)
  have T_zx := Lib.hid (tooLong_lt (K + 1) (by omega) (range_abs rx))
  have T_zl := Lib.hid (tooLong_lt (K + 1) (by omega) (range_abs rl))
  have T_zy := Lib.hid (tooLong_lt (K + 1) (by omega) (range_abs ry))
  have T_zz := Lib.hid (tooLong_lt (K + 1) (by omega) (range_abs rz))
  have T_zv := Lib.hid (tooLong_lt (K + 1) (by omega) (range_abs rv))
  have T_zo := Lib.hid (tooLong_lt (K + 1) (by omega) (range_abs ro))
  have bt : zt.natAbs < 2 ^ (K + 1) := by rw [← hzt]; exact add_bnd Ba Bb
  have bn : zn.natAbs < 2 ^ (K + 1) := by
    rw [← hzn, Nat.pow_succ]
    have := Nat.two_pow_pos K
    omega
  have T_zt := Lib.hid (tooLong_lt (K + 1) (by omega) bt)
  have T_zn := Lib.hid (tooLong_lt (K + 1) (by omega) bn)
  obtain ⟨m1, hm1⟩ : ∃ m1 : Int, m1 = -1 := ⟨_, rfl⟩
  have HM1 := Lib.hid (fun w1 => from_at (m1 := m1) w1 hm1)
  have T_m1 := Lib.hid (show tooLong m1 = false by rw [hm1]; exact tooLong_lt 1 (by decide) (by decide))
  have EM := Lib.hid (show m1 - za = zn by rw [hm1]; exact hzn)
  clear ra rb rc ex rx el rl ey ry ez rz ev rv eo ro hsum hzt hzn hm1 bt bn Ba Bb Bc hK
  have K0 := Env.box (Env.nil w) (Old.nil w) (neg := na) hsa rfl
  have K1 := Env.box K0.1 K0.2 (neg := nb) hsb (g := w.heap.size + 1) (by simp)
  have HN0 := Lib.hid (Env.box K1.1 K1.2 (neg := nc) hsc (g := w.heap.size + 1 + 1) (by simp))
  clear K0 K1 hsa hsb hsc
  go_enter Try.func13, Try.ntmps13
  go_wp2_with fail
  refine (awake_any _).mono ?_
  rintro ex w1 ⟨rfl, hb1⟩
  have HN1 : Hid (Env w w1 [⟨w.heap.size + 1 + 1, nc, Ac, n_c, cc, lc⟩, ⟨w.heap.size + 1, nb, Ab, n_b, cb, lb⟩, ⟨w.heap.size, na, Aa, n_a, ca, la⟩] ∧ Old w1 [⟨w.heap.size + 1 + 1, nc, Ac, n_c, cc, lc⟩, ⟨w.heap.size + 1, nb, Ab, n_b, cb, lb⟩, ⟨w.heap.size, na, Aa, n_a, ca, la⟩]) := Lib.hid ⟨HN0.out.1.below hb1, HN0.out.2.below hb1⟩
  clear hb1
  go_upto_region 2 with fail
  obtain ⟨x2a, x2b, x2c, x2d⟩ := (HN1.out.1.x (.tail _ (.tail _ (.head _)))).facts
  go_wp2_with fail
  refine (HFew_a.out _ (HN1.out.1.s (.tail _ (.tail _ (.head _))))).mono ?_
  rintro ex w3' ⟨A3, c3, rfl, ho3, hb3⟩
  obtain ⟨y3a, y3b, y3c, y3d⟩ := ((HN1.out.1.below hb3).x (.tail _ (.tail _ (.head _)))).facts
  have HN3 : Hid (Env w ((w3'.setCell ⟨w.heap.size, 0, none⟩ (.bool na)).setCell ⟨w.heap.size, 1, none⟩ (.slice A3 m_a c3)) [⟨w.heap.size + 1 + 1, nc, Ac, n_c, cc, lc⟩, ⟨w.heap.size + 1, nb, Ab, n_b, cb, lb⟩, ⟨w.heap.size, na, A3, m_a, c3, l_a⟩] ∧ Old ((w3'.setCell ⟨w.heap.size, 0, none⟩ (.bool na)).setCell ⟨w.heap.size, 1, none⟩ (.slice A3 m_a c3)) [⟨w.heap.size + 1 + 1, nc, Ac, n_c, cc, lc⟩, ⟨w.heap.size + 1, nb, Ab, n_b, cb, lb⟩, ⟨w.heap.size, na, A3, m_a, c3, l_a⟩]) := Lib.hid (Env.call_set HN1.out.1 HN1.out.2 hb3 ho3 HM_a.out.2.2 HM_a.out.1 2 rfl)
  clear ho3 hb3 x2a x2b x2c x2d
  go_upto_region 3 with fail
  generalize ((w3'.setCell ⟨w.heap.size, 0, none⟩ (.bool na)).setCell ⟨w.heap.size, 1, none⟩ (.slice A3 m_a c3)) = w3 at *
  clear y3a y3b y3c y3d
  go_upto_region 3 with fail
  obtain ⟨x4a, x4b, x4c, x4d⟩ := (HN3.out.1.x (.tail _ (.head _))).facts
  go_wp2_with fail
  refine (HFew_b.out _ (HN3.out.1.s (.tail _ (.head _)))).mono ?_
  rintro ex w5' ⟨A5, c5, rfl, ho5, hb5⟩
  obtain ⟨y5a, y5b, y5c, y5d⟩ := ((HN3.out.1.below hb5).x (.tail _ (.head _))).facts
  have HN5 : Hid (Env w ((w5'.setCell ⟨w.heap.size + 1, 0, none⟩ (.bool nb)).setCell ⟨w.heap.size + 1, 1, none⟩ (.slice A5 m_b c5)) [⟨w.heap.size + 1 + 1, nc, Ac, n_c, cc, lc⟩, ⟨w.heap.size + 1, nb, A5, m_b, c5, l_b⟩, ⟨w.heap.size, na, A3, m_a, c3, l_a⟩] ∧ Old ((w5'.setCell ⟨w.heap.size + 1, 0, none⟩ (.bool nb)).setCell ⟨w.heap.size + 1, 1, none⟩ (.slice A5 m_b c5)) [⟨w.heap.size + 1 + 1, nc, Ac, n_c, cc, lc⟩, ⟨w.heap.size + 1, nb, A5, m_b, c5, l_b⟩, ⟨w.heap.size, na, A3, m_a, c3, l_a⟩]) := Lib.hid (Env.call_set HN3.out.1 HN3.out.2 hb5 ho5 HM_b.out.2.2 HM_b.out.1 1 rfl)
  clear ho5 hb5 x4a x4b x4c x4d
  go_upto_region 4 with fail
  generalize ((w5'.setCell ⟨w.heap.size + 1, 0, none⟩ (.bool nb)).setCell ⟨w.heap.size + 1, 1, none⟩ (.slice A5 m_b c5)) = w5 at *
  clear y5a y5b y5c y5d
  go_upto_region 4 with fail
  obtain ⟨x6a, x6b, x6c, x6d⟩ := (HN5.out.1.x (.head _)).facts
  go_wp2_with fail
  refine (HFew_c.out _ (HN5.out.1.s (.head _))).mono ?_
  rintro ex w7' ⟨A7, c7, rfl, ho7, hb7⟩
  obtain ⟨y7a, y7b, y7c, y7d⟩ := ((HN5.out.1.below hb7).x (.head _)).facts
  have HN7 : Hid (Env w ((w7'.setCell ⟨w.heap.size + 1 + 1, 0, none⟩ (.bool nc)).setCell ⟨w.heap.size + 1 + 1, 1, none⟩ (.slice A7 m_c c7)) [⟨w.heap.size + 1 + 1, nc, A7, m_c, c7, l_c⟩, ⟨w.heap.size + 1, nb, A5, m_b, c5, l_b⟩, ⟨w.heap.size, na, A3, m_a, c3, l_a⟩] ∧ Old ((w7'.setCell ⟨w.heap.size + 1 + 1, 0, none⟩ (.bool nc)).setCell ⟨w.heap.size + 1 + 1, 1, none⟩ (.slice A7 m_c c7)) [⟨w.heap.size + 1 + 1, nc, A7, m_c, c7, l_c⟩, ⟨w.heap.size + 1, nb, A5, m_b, c5, l_b⟩, ⟨w.heap.size, na, A3, m_a, c3, l_a⟩]) := Lib.hid (Env.call_set HN5.out.1 HN5.out.2 hb7 ho7 HM_c.out.2.2 HM_c.out.1 0 rfl)
  clear ho7 hb7 x6a x6b x6c x6d
  go_upto_region 5 with fail
  generalize ((w7'.setCell ⟨w.heap.size + 1 + 1, 0, none⟩ (.bool nc)).setCell ⟨w.heap.size + 1 + 1, 1, none⟩ (.slice A7 m_c c7)) = w7 at *
  clear y7a y7b y7c y7d
  go_upto_region 5 with fail
  obtain ⟨x8a, x8b, x8c, x8d⟩ := (HN7.out.1.x (.tail _ (.head _))).facts
  obtain ⟨x9a, x9b, x9c, x9d⟩ := (HN7.out.1.x (.head _)).facts
  go_wp2_with fail
  refine (Or_z (HN7.out.1.s (.tail _ (.head _))) (HN7.out.1.s (.head _)) (Nat.le_trans HM_b.out.2.1 (by decide)) (Nat.le_trans HM_c.out.2.1 (by decide)) HI_b.out HI_c.out EX.out T_zb.out T_zc.out T_zx.out).mono ?_
  rintro ex w10' ⟨v, rfl, ⟨A10, c10, rfl, ho10⟩, hb10⟩
  have HN10 : Hid (Env w (w10'.alloc (.cells #[.bool (decide (zx < 0)), .slice A10 (digs W zx.natAbs).length c10] 24)) [⟨w10'.heap.size, (decide (zx < 0)), A10, (digs W zx.natAbs).length, c10, (digs W zx.natAbs)⟩, ⟨w.heap.size + 1 + 1, nc, A7, m_c, c7, l_c⟩, ⟨w.heap.size + 1, nb, A5, m_b, c5, l_b⟩, ⟨w.heap.size, na, A3, m_a, c3, l_a⟩] ∧ Old (w10'.alloc (.cells #[.bool (decide (zx < 0)), .slice A10 (digs W zx.natAbs).length c10] 24)) [⟨w10'.heap.size, (decide (zx < 0)), A10, (digs W zx.natAbs).length, c10, (digs W zx.natAbs)⟩, ⟨w.heap.size + 1 + 1, nc, A7, m_c, c7, l_c⟩, ⟨w.heap.size + 1, nb, A5, m_b, c5, l_b⟩, ⟨w.heap.size, na, A3, m_a, c3, l_a⟩]) := Lib.hid (Env.call_push HN7.out.1 HN7.out.2 hb10 ho10 (dig_digs (by decide) _) rfl)
  clear ho10 hb10 x8a x8b x8c x8d x9a x9b x9c x9d
  go_upto_region 6 with fail
  generalize (w10'.alloc (.cells #[.bool (decide (zx < 0)), .slice A10 (digs W zx.natAbs).length c10] 24)) = w10 at *
  generalize w10'.heap.size = g10 at *
  go_upto_region 6 with fail
  obtain ⟨x11a, x11b, x11c, x11d⟩ := (HN10.out.1.x (.tail _ (.tail _ (.tail _ (.head _))))).facts
  obtain ⟨x12a, x12b, x12c, x12d⟩ := (HN10.out.1.x (.head _)).facts
  go_wp2_with fail
  refine (And_z (HN10.out.1.s (.tail _ (.tail _ (.tail _ (.head _))))) (HN10.out.1.s (.head _)) (Nat.le_trans HM_a.out.2.1 (by decide)) (Nat.le_trans (not_too_len T_zx.out) (by decide)) HI_a.out (ival_digs zx) EL.out T_za.out T_zx.out T_zl.out).mono ?_
  rintro ex w13' ⟨v, rfl, ⟨A13, c13, rfl, ho13⟩, hb13⟩
  have HN13 : Hid (Env w (w13'.alloc (.cells #[.bool (decide (zl < 0)), .slice A13 (digs W zl.natAbs).length c13] 24)) [⟨w13'.heap.size, (decide (zl < 0)), A13, (digs W zl.natAbs).length, c13, (digs W zl.natAbs)⟩, ⟨g10, (decide (zx < 0)), A10, (digs W zx.natAbs).length, c10, (digs W zx.natAbs)⟩, ⟨w.heap.size + 1 + 1, nc, A7, m_c, c7, l_c⟩, ⟨w.heap.size + 1, nb, A5, m_b, c5, l_b⟩, ⟨w.heap.size, na, A3, m_a, c3, l_a⟩] ∧ Old (w13'.alloc (.cells #[.bool (decide (zl < 0)), .slice A13 (digs W zl.natAbs).length c13] 24)) [⟨w13'.heap.size, (decide (zl < 0)), A13, (digs W zl.natAbs).length, c13, (digs W zl.natAbs)⟩, ⟨g10, (decide (zx < 0)), A10, (digs W zx.natAbs).length, c10, (digs W zx.natAbs)⟩, ⟨w.heap.size + 1 + 1, nc, A7, m_c, c7, l_c⟩, ⟨w.heap.size + 1, nb, A5, m_b, c5, l_b⟩, ⟨w.heap.size, na, A3, m_a, c3, l_a⟩]) := Lib.hid (Env.call_push HN10.out.1 HN10.out.2 hb13 ho13 (dig_digs (by decide) _) rfl)
  clear ho13 hb13 x11a x11b x11c x11d x12a x12b x12c x12d
  go_upto_region 7 with fail
  generalize (w13'.alloc (.cells #[.bool (decide (zl < 0)), .slice A13 (digs W zl.natAbs).length c13] 24)) = w13 at *
  generalize w13'.heap.size = g13 at *
  go_upto_region 7 with fail
  obtain ⟨x14a, x14b, x14c, x14d⟩ := (HN13.out.1.x (.tail _ (.tail _ (.tail _ (.tail _ (.head _)))))).facts
  obtain ⟨x15a, x15b, x15c, x15d⟩ := (HN13.out.1.x (.tail _ (.tail _ (.tail _ (.head _))))).facts
  go_wp2_with fail
  refine (And_z (HN13.out.1.s (.tail _ (.tail _ (.tail _ (.tail _ (.head _)))))) (HN13.out.1.s (.tail _ (.tail _ (.tail _ (.head _))))) (Nat.le_trans HM_a.out.2.1 (by decide)) (Nat.le_trans HM_b.out.2.1 (by decide)) HI_a.out HI_b.out EY.out T_za.out T_zb.out T_zy.out).mono ?_
  rintro ex w16' ⟨v, rfl, ⟨A16, c16, rfl, ho16⟩, hb16⟩
  have HN16 : Hid (Env w (w16'.alloc (.cells #[.bool (decide (zy < 0)), .slice A16 (digs W zy.natAbs).length c16] 24)) [⟨w16'.heap.size, (decide (zy < 0)), A16, (digs W zy.natAbs).length, c16, (digs W zy.natAbs)⟩, ⟨g13, (decide (zl < 0)), A13, (digs W zl.natAbs).length, c13, (digs W zl.natAbs)⟩, ⟨g10, (decide (zx < 0)), A10, (digs W zx.natAbs).length, c10, (digs W zx.natAbs)⟩, ⟨w.heap.size + 1 + 1, nc, A7, m_c, c7, l_c⟩, ⟨w.heap.size + 1, nb, A5, m_b, c5, l_b⟩, ⟨w.heap.size, na, A3, m_a, c3, l_a⟩] ∧ Old (w16'.alloc (.cells #[.bool (decide (zy < 0)), .slice A16 (digs W zy.natAbs).length c16] 24)) [⟨w16'.heap.size, (decide (zy < 0)), A16, (digs W zy.natAbs).length, c16, (digs W zy.natAbs)⟩, ⟨g13, (decide (zl < 0)), A13, (digs W zl.natAbs).length, c13, (digs W zl.natAbs)⟩, ⟨g10, (decide (zx < 0)), A10, (digs W zx.natAbs).length, c10, (digs W zx.natAbs)⟩, ⟨w.heap.size + 1 + 1, nc, A7, m_c, c7, l_c⟩, ⟨w.heap.size + 1, nb, A5, m_b, c5, l_b⟩, ⟨w.heap.size, na, A3, m_a, c3, l_a⟩]) := Lib.hid (Env.call_push HN13.out.1 HN13.out.2 hb16 ho16 (dig_digs (by decide) _) rfl)
  clear ho16 hb16 x14a x14b x14c x14d x15a x15b x15c x15d
  go_upto_region 8 with fail
  generalize (w16'.alloc (.cells #[.bool (decide (zy < 0)), .slice A16 (digs W zy.natAbs).length c16] 24)) = w16 at *
  generalize w16'.heap.size = g16 at *
  go_upto_region 8 with fail
  obtain ⟨x17a, x17b, x17c, x17d⟩ := (HN16.out.1.x (.tail _ (.tail _ (.tail _ (.tail _ (.tail _ (.head _))))))).facts
  obtain ⟨x18a, x18b, x18c, x18d⟩ := (HN16.out.1.x (.tail _ (.tail _ (.tail _ (.head _))))).facts
  go_wp2_with fail
  refine (And_z (HN16.out.1.s (.tail _ (.tail _ (.tail _ (.tail _ (.tail _ (.head _))))))) (HN16.out.1.s (.tail _ (.tail _ (.tail _ (.head _))))) (Nat.le_trans HM_a.out.2.1 (by decide)) (Nat.le_trans HM_c.out.2.1 (by decide)) HI_a.out HI_c.out EZ.out T_za.out T_zc.out T_zz.out).mono ?_
  rintro ex w19' ⟨v, rfl, ⟨A19, c19, rfl, ho19⟩, hb19⟩
  have HN19 : Hid (Env w (w19'.alloc (.cells #[.bool (decide (zz < 0)), .slice A19 (digs W zz.natAbs).length c19] 24)) [⟨w19'.heap.size, (decide (zz < 0)), A19, (digs W zz.natAbs).length, c19, (digs W zz.natAbs)⟩, ⟨g16, (decide (zy < 0)), A16, (digs W zy.natAbs).length, c16, (digs W zy.natAbs)⟩, ⟨g13, (decide (zl < 0)), A13, (digs W zl.natAbs).length, c13, (digs W zl.natAbs)⟩, ⟨g10, (decide (zx < 0)), A10, (digs W zx.natAbs).length, c10, (digs W zx.natAbs)⟩, ⟨w.heap.size + 1 + 1, nc, A7, m_c, c7, l_c⟩, ⟨w.heap.size + 1, nb, A5, m_b, c5, l_b⟩, ⟨w.heap.size, na, A3, m_a, c3, l_a⟩] ∧ Old (w19'.alloc (.cells #[.bool (decide (zz < 0)), .slice A19 (digs W zz.natAbs).length c19] 24)) [⟨w19'.heap.size, (decide (zz < 0)), A19, (digs W zz.natAbs).length, c19, (digs W zz.natAbs)⟩, ⟨g16, (decide (zy < 0)), A16, (digs W zy.natAbs).length, c16, (digs W zy.natAbs)⟩, ⟨g13, (decide (zl < 0)), A13, (digs W zl.natAbs).length, c13, (digs W zl.natAbs)⟩, ⟨g10, (decide (zx < 0)), A10, (digs W zx.natAbs).length, c10, (digs W zx.natAbs)⟩, ⟨w.heap.size + 1 + 1, nc, A7, m_c, c7, l_c⟩, ⟨w.heap.size + 1, nb, A5, m_b, c5, l_b⟩, ⟨w.heap.size, na, A3, m_a, c3, l_a⟩]) := Lib.hid (Env.call_push HN16.out.1 HN16.out.2 hb19 ho19 (dig_digs (by decide) _) rfl)
  clear ho19 hb19 x17a x17b x17c x17d x18a x18b x18c x18d
  go_upto_region 9 with fail
  generalize (w19'.alloc (.cells #[.bool (decide (zz < 0)), .slice A19 (digs W zz.natAbs).length c19] 24)) = w19 at *
  generalize w19'.heap.size = g19 at *
  go_upto_region 9 with fail
  obtain ⟨x20a, x20b, x20c, x20d⟩ := (HN19.out.1.x (.tail _ (.head _))).facts
  obtain ⟨x21a, x21b, x21c, x21d⟩ := (HN19.out.1.x (.head _)).facts
  go_wp2_with fail
  refine (Or_z (HN19.out.1.s (.tail _ (.head _))) (HN19.out.1.s (.head _)) (Nat.le_trans (not_too_len T_zy.out) (by decide)) (Nat.le_trans (not_too_len T_zz.out) (by decide)) (ival_digs zy) (ival_digs zz) ER.out T_zy.out T_zz.out T_zl.out).mono ?_
  rintro ex w22' ⟨v, rfl, ⟨A22, c22, rfl, ho22⟩, hb22⟩
  have HN22 : Hid (Env w (w22'.alloc (.cells #[.bool (decide (zl < 0)), .slice A22 (digs W zl.natAbs).length c22] 24)) [⟨w22'.heap.size, (decide (zl < 0)), A22, (digs W zl.natAbs).length, c22, (digs W zl.natAbs)⟩, ⟨g19, (decide (zz < 0)), A19, (digs W zz.natAbs).length, c19, (digs W zz.natAbs)⟩, ⟨g16, (decide (zy < 0)), A16, (digs W zy.natAbs).length, c16, (digs W zy.natAbs)⟩, ⟨g13, (decide (zl < 0)), A13, (digs W zl.natAbs).length, c13, (digs W zl.natAbs)⟩, ⟨g10, (decide (zx < 0)), A10, (digs W zx.natAbs).length, c10, (digs W zx.natAbs)⟩, ⟨w.heap.size + 1 + 1, nc, A7, m_c, c7, l_c⟩, ⟨w.heap.size + 1, nb, A5, m_b, c5, l_b⟩, ⟨w.heap.size, na, A3, m_a, c3, l_a⟩] ∧ Old (w22'.alloc (.cells #[.bool (decide (zl < 0)), .slice A22 (digs W zl.natAbs).length c22] 24)) [⟨w22'.heap.size, (decide (zl < 0)), A22, (digs W zl.natAbs).length, c22, (digs W zl.natAbs)⟩, ⟨g19, (decide (zz < 0)), A19, (digs W zz.natAbs).length, c19, (digs W zz.natAbs)⟩, ⟨g16, (decide (zy < 0)), A16, (digs W zy.natAbs).length, c16, (digs W zy.natAbs)⟩, ⟨g13, (decide (zl < 0)), A13, (digs W zl.natAbs).length, c13, (digs W zl.natAbs)⟩, ⟨g10, (decide (zx < 0)), A10, (digs W zx.natAbs).length, c10, (digs W zx.natAbs)⟩, ⟨w.heap.size + 1 + 1, nc, A7, m_c, c7, l_c⟩, ⟨w.heap.size + 1, nb, A5, m_b, c5, l_b⟩, ⟨w.heap.size, na, A3, m_a, c3, l_a⟩]) := Lib.hid (Env.call_push HN19.out.1 HN19.out.2 hb22 ho22 (dig_digs (by decide) _) rfl)
  clear ho22 hb22 x20a x20b x20c x20d x21a x21b x21c x21d
  go_upto_region 10 with fail
  generalize (w22'.alloc (.cells #[.bool (decide (zl < 0)), .slice A22 (digs W zl.natAbs).length c22] 24)) = w22 at *
  generalize w22'.heap.size = g22 at *
  go_upto_region 10 with fail
  obtain ⟨x23a, x23b, x23c, x23d⟩ := (HN22.out.1.x (.tail _ (.tail _ (.tail _ (.head _))))).facts
  obtain ⟨x24a, x24b, x24c, x24d⟩ := (HN22.out.1.x (.head _)).facts
  go_wp2_with fail
  refine (same_z (HN22.out.1.s (.tail _ (.tail _ (.tail _ (.head _))))) (HN22.out.1.s (.head _)) (ival_digs zl) (ival_digs zl)).mono ?_
  rintro ex w25' ⟨rfl, hb25⟩
  have HN25 : Hid (Env w w25' [⟨g22, (decide (zl < 0)), A22, (digs W zl.natAbs).length, c22, (digs W zl.natAbs)⟩, ⟨g19, (decide (zz < 0)), A19, (digs W zz.natAbs).length, c19, (digs W zz.natAbs)⟩, ⟨g16, (decide (zy < 0)), A16, (digs W zy.natAbs).length, c16, (digs W zy.natAbs)⟩, ⟨g13, (decide (zl < 0)), A13, (digs W zl.natAbs).length, c13, (digs W zl.natAbs)⟩, ⟨g10, (decide (zx < 0)), A10, (digs W zx.natAbs).length, c10, (digs W zx.natAbs)⟩, ⟨w.heap.size + 1 + 1, nc, A7, m_c, c7, l_c⟩, ⟨w.heap.size + 1, nb, A5, m_b, c5, l_b⟩, ⟨w.heap.size, na, A3, m_a, c3, l_a⟩] ∧ Old w25' [⟨g22, (decide (zl < 0)), A22, (digs W zl.natAbs).length, c22, (digs W zl.natAbs)⟩, ⟨g19, (decide (zz < 0)), A19, (digs W zz.natAbs).length, c19, (digs W zz.natAbs)⟩, ⟨g16, (decide (zy < 0)), A16, (digs W zy.natAbs).length, c16, (digs W zy.natAbs)⟩, ⟨g13, (decide (zl < 0)), A13, (digs W zl.natAbs).length, c13, (digs W zl.natAbs)⟩, ⟨g10, (decide (zx < 0)), A10, (digs W zx.natAbs).length, c10, (digs W zx.natAbs)⟩, ⟨w.heap.size + 1 + 1, nc, A7, m_c, c7, l_c⟩, ⟨w.heap.size + 1, nb, A5, m_b, c5, l_b⟩, ⟨w.heap.size, na, A3, m_a, c3, l_a⟩]) := Lib.hid ⟨HN22.out.1.below hb25, HN22.out.2.below hb25⟩
  clear hb25 x23a x23b x23c x23d x24a x24b x24c x24d
  go_upto_region 11 with fail
  go_upto_region 11 with fail
  obtain ⟨x26a, x26b, x26c, x26d⟩ := (HN25.out.1.x (.tail _ (.tail _ (.tail _ (.tail _ (.tail _ (.tail _ (.tail _ (.head _))))))))).facts
  obtain ⟨x27a, x27b, x27c, x27d⟩ := (HN25.out.1.x (.tail _ (.tail _ (.tail _ (.tail _ (.tail _ (.tail _ (.head _)))))))).facts
  go_wp2_with fail
  refine (Xor_z (HN25.out.1.s (.tail _ (.tail _ (.tail _ (.tail _ (.tail _ (.tail _ (.tail _ (.head _))))))))) (HN25.out.1.s (.tail _ (.tail _ (.tail _ (.tail _ (.tail _ (.tail _ (.head _)))))))) (Nat.le_trans HM_a.out.2.1 (by decide)) (Nat.le_trans HM_b.out.2.1 (by decide)) HI_a.out HI_b.out EV.out T_za.out T_zb.out T_zv.out).mono ?_
  rintro ex w28' ⟨v, rfl, ⟨A28, c28, rfl, ho28⟩, hb28⟩
  have HN28 : Hid (Env w (w28'.alloc (.cells #[.bool (decide (zv < 0)), .slice A28 (digs W zv.natAbs).length c28] 24)) [⟨w28'.heap.size, (decide (zv < 0)), A28, (digs W zv.natAbs).length, c28, (digs W zv.natAbs)⟩, ⟨g22, (decide (zl < 0)), A22, (digs W zl.natAbs).length, c22, (digs W zl.natAbs)⟩, ⟨g19, (decide (zz < 0)), A19, (digs W zz.natAbs).length, c19, (digs W zz.natAbs)⟩, ⟨g16, (decide (zy < 0)), A16, (digs W zy.natAbs).length, c16, (digs W zy.natAbs)⟩, ⟨g13, (decide (zl < 0)), A13, (digs W zl.natAbs).length, c13, (digs W zl.natAbs)⟩, ⟨g10, (decide (zx < 0)), A10, (digs W zx.natAbs).length, c10, (digs W zx.natAbs)⟩, ⟨w.heap.size + 1 + 1, nc, A7, m_c, c7, l_c⟩, ⟨w.heap.size + 1, nb, A5, m_b, c5, l_b⟩, ⟨w.heap.size, na, A3, m_a, c3, l_a⟩] ∧ Old (w28'.alloc (.cells #[.bool (decide (zv < 0)), .slice A28 (digs W zv.natAbs).length c28] 24)) [⟨w28'.heap.size, (decide (zv < 0)), A28, (digs W zv.natAbs).length, c28, (digs W zv.natAbs)⟩, ⟨g22, (decide (zl < 0)), A22, (digs W zl.natAbs).length, c22, (digs W zl.natAbs)⟩, ⟨g19, (decide (zz < 0)), A19, (digs W zz.natAbs).length, c19, (digs W zz.natAbs)⟩, ⟨g16, (decide (zy < 0)), A16, (digs W zy.natAbs).length, c16, (digs W zy.natAbs)⟩, ⟨g13, (decide (zl < 0)), A13, (digs W zl.natAbs).length, c13, (digs W zl.natAbs)⟩, ⟨g10, (decide (zx < 0)), A10, (digs W zx.natAbs).length, c10, (digs W zx.natAbs)⟩, ⟨w.heap.size + 1 + 1, nc, A7, m_c, c7, l_c⟩, ⟨w.heap.size + 1, nb, A5, m_b, c5, l_b⟩, ⟨w.heap.size, na, A3, m_a, c3, l_a⟩]) := Lib.hid (Env.call_push HN25.out.1 HN25.out.2 hb28 ho28 (dig_digs (by decide) _) rfl)
  clear ho28 hb28 x26a x26b x26c x26d x27a x27b x27c x27d
  go_upto_region 12 with fail
  generalize (w28'.alloc (.cells #[.bool (decide (zv < 0)), .slice A28 (digs W zv.natAbs).length c28] 24)) = w28 at *
  generalize w28'.heap.size = g28 at *
  go_upto_region 12 with fail
  obtain ⟨x29a, x29b, x29c, x29d⟩ := (HN28.out.1.x (.head _)).facts
  obtain ⟨x30a, x30b, x30c, x30d⟩ := (HN28.out.1.x (.tail _ (.tail _ (.tail _ (.tail _ (.tail _ (.tail _ (.tail _ (.head _))))))))).facts
  go_wp2_with fail
  refine (Xor_z (HN28.out.1.s (.head _)) (HN28.out.1.s (.tail _ (.tail _ (.tail _ (.tail _ (.tail _ (.tail _ (.tail _ (.head _))))))))) (Nat.le_trans (not_too_len T_zv.out) (by decide)) (Nat.le_trans HM_b.out.2.1 (by decide)) (ival_digs zv) HI_b.out EW.out T_zv.out T_zb.out T_za.out).mono ?_
  rintro ex w31' ⟨v, rfl, ⟨A31, c31, rfl, ho31⟩, hb31⟩
  have HN31 : Hid (Env w (w31'.alloc (.cells #[.bool (decide (za < 0)), .slice A31 (digs W za.natAbs).length c31] 24)) [⟨w31'.heap.size, (decide (za < 0)), A31, (digs W za.natAbs).length, c31, (digs W za.natAbs)⟩, ⟨g28, (decide (zv < 0)), A28, (digs W zv.natAbs).length, c28, (digs W zv.natAbs)⟩, ⟨g22, (decide (zl < 0)), A22, (digs W zl.natAbs).length, c22, (digs W zl.natAbs)⟩, ⟨g19, (decide (zz < 0)), A19, (digs W zz.natAbs).length, c19, (digs W zz.natAbs)⟩, ⟨g16, (decide (zy < 0)), A16, (digs W zy.natAbs).length, c16, (digs W zy.natAbs)⟩, ⟨g13, (decide (zl < 0)), A13, (digs W zl.natAbs).length, c13, (digs W zl.natAbs)⟩, ⟨g10, (decide (zx < 0)), A10, (digs W zx.natAbs).length, c10, (digs W zx.natAbs)⟩, ⟨w.heap.size + 1 + 1, nc, A7, m_c, c7, l_c⟩, ⟨w.heap.size + 1, nb, A5, m_b, c5, l_b⟩, ⟨w.heap.size, na, A3, m_a, c3, l_a⟩] ∧ Old (w31'.alloc (.cells #[.bool (decide (za < 0)), .slice A31 (digs W za.natAbs).length c31] 24)) [⟨w31'.heap.size, (decide (za < 0)), A31, (digs W za.natAbs).length, c31, (digs W za.natAbs)⟩, ⟨g28, (decide (zv < 0)), A28, (digs W zv.natAbs).length, c28, (digs W zv.natAbs)⟩, ⟨g22, (decide (zl < 0)), A22, (digs W zl.natAbs).length, c22, (digs W zl.natAbs)⟩, ⟨g19, (decide (zz < 0)), A19, (digs W zz.natAbs).length, c19, (digs W zz.natAbs)⟩, ⟨g16, (decide (zy < 0)), A16, (digs W zy.natAbs).length, c16, (digs W zy.natAbs)⟩, ⟨g13, (decide (zl < 0)), A13, (digs W zl.natAbs).length, c13, (digs W zl.natAbs)⟩, ⟨g10, (decide (zx < 0)), A10, (digs W zx.natAbs).length, c10, (digs W zx.natAbs)⟩, ⟨w.heap.size + 1 + 1, nc, A7, m_c, c7, l_c⟩, ⟨w.heap.size + 1, nb, A5, m_b, c5, l_b⟩, ⟨w.heap.size, na, A3, m_a, c3, l_a⟩]) := Lib.hid (Env.call_push HN28.out.1 HN28.out.2 hb31 ho31 (dig_digs (by decide) _) rfl)
  clear ho31 hb31 x29a x29b x29c x29d x30a x30b x30c x30d
  go_upto_region 13 with fail
  generalize (w31'.alloc (.cells #[.bool (decide (za < 0)), .slice A31 (digs W za.natAbs).length c31] 24)) = w31 at *
  generalize w31'.heap.size = g31 at *
  go_upto_region 13 with fail
  obtain ⟨x32a, x32b, x32c, x32d⟩ := (HN31.out.1.x (.head _)).facts
  obtain ⟨x33a, x33b, x33c, x33d⟩ := (HN31.out.1.x (.tail _ (.tail _ (.tail _ (.tail _ (.tail _ (.tail _ (.tail _ (.tail _ (.tail _ (.head _))))))))))).facts
  go_wp2_with fail
  refine (same_z (HN31.out.1.s (.head _)) (HN31.out.1.s (.tail _ (.tail _ (.tail _ (.tail _ (.tail _ (.tail _ (.tail _ (.tail _ (.tail _ (.head _))))))))))) (ival_digs za) HI_a.out).mono ?_
  rintro ex w34' ⟨rfl, hb34⟩
  have HN34 : Hid (Env w w34' [⟨g31, (decide (za < 0)), A31, (digs W za.natAbs).length, c31, (digs W za.natAbs)⟩, ⟨g28, (decide (zv < 0)), A28, (digs W zv.natAbs).length, c28, (digs W zv.natAbs)⟩, ⟨g22, (decide (zl < 0)), A22, (digs W zl.natAbs).length, c22, (digs W zl.natAbs)⟩, ⟨g19, (decide (zz < 0)), A19, (digs W zz.natAbs).length, c19, (digs W zz.natAbs)⟩, ⟨g16, (decide (zy < 0)), A16, (digs W zy.natAbs).length, c16, (digs W zy.natAbs)⟩, ⟨g13, (decide (zl < 0)), A13, (digs W zl.natAbs).length, c13, (digs W zl.natAbs)⟩, ⟨g10, (decide (zx < 0)), A10, (digs W zx.natAbs).length, c10, (digs W zx.natAbs)⟩, ⟨w.heap.size + 1 + 1, nc, A7, m_c, c7, l_c⟩, ⟨w.heap.size + 1, nb, A5, m_b, c5, l_b⟩, ⟨w.heap.size, na, A3, m_a, c3, l_a⟩] ∧ Old w34' [⟨g31, (decide (za < 0)), A31, (digs W za.natAbs).length, c31, (digs W za.natAbs)⟩, ⟨g28, (decide (zv < 0)), A28, (digs W zv.natAbs).length, c28, (digs W zv.natAbs)⟩, ⟨g22, (decide (zl < 0)), A22, (digs W zl.natAbs).length, c22, (digs W zl.natAbs)⟩, ⟨g19, (decide (zz < 0)), A19, (digs W zz.natAbs).length, c19, (digs W zz.natAbs)⟩, ⟨g16, (decide (zy < 0)), A16, (digs W zy.natAbs).length, c16, (digs W zy.natAbs)⟩, ⟨g13, (decide (zl < 0)), A13, (digs W zl.natAbs).length, c13, (digs W zl.natAbs)⟩, ⟨g10, (decide (zx < 0)), A10, (digs W zx.natAbs).length, c10, (digs W zx.natAbs)⟩, ⟨w.heap.size + 1 + 1, nc, A7, m_c, c7, l_c⟩, ⟨w.heap.size + 1, nb, A5, m_b, c5, l_b⟩, ⟨w.heap.size, na, A3, m_a, c3, l_a⟩]) := Lib.hid ⟨HN31.out.1.below hb34, HN31.out.2.below hb34⟩
  clear hb34 x32a x32b x32c x32d x33a x33b x33c x33d
  go_upto_region 14 with fail
  go_upto_region 14 with fail
  obtain ⟨x35a, x35b, x35c, x35d⟩ := (HN34.out.1.x (.tail _ (.tail _ (.tail _ (.tail _ (.tail _ (.tail _ (.tail _ (.tail _ (.tail _ (.head _))))))))))).facts
  go_wp2_with fail
  refine (Not_z (HN34.out.1.s (.tail _ (.tail _ (.tail _ (.tail _ (.tail _ (.tail _ (.tail _ (.tail _ (.tail _ (.head _))))))))))) (Nat.le_trans HM_a.out.2.1 (by decide)) HI_a.out EN.out T_za.out T_zn.out).mono ?_
  rintro ex w36' ⟨v, rfl, ⟨A36, c36, rfl, ho36⟩, hb36⟩
  have HN36 : Hid (Env w (w36'.alloc (.cells #[.bool (decide (zn < 0)), .slice A36 (digs W zn.natAbs).length c36] 24)) [⟨w36'.heap.size, (decide (zn < 0)), A36, (digs W zn.natAbs).length, c36, (digs W zn.natAbs)⟩, ⟨g31, (decide (za < 0)), A31, (digs W za.natAbs).length, c31, (digs W za.natAbs)⟩, ⟨g28, (decide (zv < 0)), A28, (digs W zv.natAbs).length, c28, (digs W zv.natAbs)⟩, ⟨g22, (decide (zl < 0)), A22, (digs W zl.natAbs).length, c22, (digs W zl.natAbs)⟩, ⟨g19, (decide (zz < 0)), A19, (digs W zz.natAbs).length, c19, (digs W zz.natAbs)⟩, ⟨g16, (decide (zy < 0)), A16, (digs W zy.natAbs).length, c16, (digs W zy.natAbs)⟩, ⟨g13, (decide (zl < 0)), A13, (digs W zl.natAbs).length, c13, (digs W zl.natAbs)⟩, ⟨g10, (decide (zx < 0)), A10, (digs W zx.natAbs).length, c10, (digs W zx.natAbs)⟩, ⟨w.heap.size + 1 + 1, nc, A7, m_c, c7, l_c⟩, ⟨w.heap.size + 1, nb, A5, m_b, c5, l_b⟩, ⟨w.heap.size, na, A3, m_a, c3, l_a⟩] ∧ Old (w36'.alloc (.cells #[.bool (decide (zn < 0)), .slice A36 (digs W zn.natAbs).length c36] 24)) [⟨w36'.heap.size, (decide (zn < 0)), A36, (digs W zn.natAbs).length, c36, (digs W zn.natAbs)⟩, ⟨g31, (decide (za < 0)), A31, (digs W za.natAbs).length, c31, (digs W za.natAbs)⟩, ⟨g28, (decide (zv < 0)), A28, (digs W zv.natAbs).length, c28, (digs W zv.natAbs)⟩, ⟨g22, (decide (zl < 0)), A22, (digs W zl.natAbs).length, c22, (digs W zl.natAbs)⟩, ⟨g19, (decide (zz < 0)), A19, (digs W zz.natAbs).length, c19, (digs W zz.natAbs)⟩, ⟨g16, (decide (zy < 0)), A16, (digs W zy.natAbs).length, c16, (digs W zy.natAbs)⟩, ⟨g13, (decide (zl < 0)), A13, (digs W zl.natAbs).length, c13, (digs W zl.natAbs)⟩, ⟨g10, (decide (zx < 0)), A10, (digs W zx.natAbs).length, c10, (digs W zx.natAbs)⟩, ⟨w.heap.size + 1 + 1, nc, A7, m_c, c7, l_c⟩, ⟨w.heap.size + 1, nb, A5, m_b, c5, l_b⟩, ⟨w.heap.size, na, A3, m_a, c3, l_a⟩]) := Lib.hid (Env.call_push HN34.out.1 HN34.out.2 hb36 ho36 (dig_digs (by decide) _) rfl)
  clear ho36 hb36 x35a x35b x35c x35d
  go_upto_region 15 with fail
  generalize (w36'.alloc (.cells #[.bool (decide (zn < 0)), .slice A36 (digs W zn.natAbs).length c36] 24)) = w36 at *
  generalize w36'.heap.size = g36 at *
  go_cut [26, 27] (fun s26 s27 wx => ∃ g A c, s26 = .pointer (some ⟨g, 0, none⟩) ∧ s27 = .int .i64 0 ∧ Bx wx g (.bool (decide (zn < 0))) (.slice A (digs W zn.natAbs).length c) ∧ w36.heap.size ≤ g ∧ OwnU wx w36.heap.size A (digs W zn.natAbs).length c (u32s (digs W zn.natAbs)) ∧ Hid (∀ g', A = some ⟨g', 0, none⟩ → g' ≠ g) ∧ Below w36.heap.size w36 wx)
  case first =>
    have hS := Lib.hid (fun w' (hb : Below w36.heap.size w36 w') => And.intro ((HN36.out.1.below hb).x (.tail _ (.tail _ (.tail _ (.tail _ (.tail _ (.tail _ (.tail _ (.tail _ (.tail _ (.tail _ (.head _)))))))))))).facts.1 ((HN36.out.1.below hb).x (.tail _ (.tail _ (.tail _ (.tail _ (.tail _ (.tail _ (.tail _ (.tail _ (.tail _ (.tail _ (.head _)))))))))))).facts.2.1)
    have hR := Lib.hid (fun w' (hb : Below w36.heap.size w36 w') => SlU.to (HN36.out.1.s (.tail _ (.tail _ (.tail _ (.tail _ (.tail _ (.tail _ (.tail _ (.tail _ (.tail _ (.tail _ (.head _)))))))))))) hb (Nat.le_refl _))
    obtain ⟨x0, x1, _, _⟩ := (HN36.out.1.x (.tail _ (.tail _ (.tail _ (.tail _ (.tail _ (.tail _ (.tail _ (.tail _ (.tail _ (.tail _ (.head _)))))))))))).facts
    have KK : Below w36.heap.size w36 w36.drew := (Below.refl _ _).drew
    refine wp_region_wait (fun w' => (w'.cell? ⟨w.heap.size, 0, none⟩ = some (.bool na) ∧ w'.cell? ⟨w.heap.size, 1, none⟩ = some (.slice A3 m_a c3))) 8 (by kernel_rfl) ?_
    change wpAnyW _ _ _ _ _ _ _ _ _ w36.drew
    generalize w36.drew = u0 at *
    refine wpAnyW_take 8 (i := 1) (v := .agg #[.bool na, .slice A3 m_a c3]) rfl (by kernel_rfl) (by kernel_rfl) (by kernel_rfl) (by kernel_rfl) (fun _ _ _ h => h) (Or.inl ⟨by kernel_rfl, fun w5 hSw => by go_simp⟩) (hS.out _ KK) ?_
    refine wpAnyW_two (i := 0) (i2 := 6) (by kernel_rfl) rfl rfl (fun K hK => ?_) (fun K hK => ?_) 
    · go_simp
      (with_reducible refine (HM1.out _).mono ?_)
      rintro ex u1 ⟨v, rfl, ⟨Am, cm, rfl, omi⟩, hbb⟩
      replace KK := KK.trans (hbb.mono KK.size)
      clear hbb
      refine hK.out _ _ (fun _ => hS.out _ KK) ?_
      refine wpAnyW_two (i := 2) (i2 := 6) (by kernel_rfl) rfl rfl (fun K hK => ?_) (fun K hK => ?_) 
      · go_simp
        (with_reducible refine (Sub_z (Own.int omi) (hR.out _ KK) (Nat.le_trans (not_too_len T_m1.out) (by decide)) (Nat.le_trans HM_a.out.2.1 (by decide)) (ival_digs m1) HI_a.out EM.out T_m1.out T_za.out T_zn.out).mono ?_)
        rintro ex u2 ⟨v, rfl, ⟨Ar, cr, rfl, ores⟩, hbb⟩
        replace ores := Own.mono ores KK.size
        replace KK := KK.trans (hbb.mono KK.size)
        clear hbb omi
        refine hK.out _ _ (fun _ => hS.out _ KK) ?_
        refine wpAnyW_take 8 (i := 3) (v := .tuple #[.agg #[.bool (decide (zn < 0)), .slice Ar (digs W zn.natAbs).length cr], .int .i64 0]) rfl (by kernel_rfl) (by kernel_rfl) (by kernel_rfl) (by kernel_rfl) (fun _ _ _ h => h) (Or.inl ⟨by kernel_rfl, fun w5 hSw => by go_simp⟩) (hS.out _ KK) ?_
        refine wpAnyW_take 8 (i := 4) (v := .agg #[.bool (decide (zn < 0)), .slice Ar (digs W zn.natAbs).length cr]) rfl (by kernel_rfl) (by kernel_rfl) (by kernel_rfl) (by kernel_rfl) (fun _ _ _ h => h) (Or.inl ⟨by kernel_rfl, fun w5 hSw => by go_simp⟩) (hS.out _ KK) ?_
        refine wpAnyW_take 8 (i := 5) (v := .int .i64 0) rfl (by kernel_rfl) (by kernel_rfl) (by kernel_rfl) (by kernel_rfl) (fun _ _ _ h => h) (Or.inl ⟨by kernel_rfl, fun w5 hSw => by go_simp⟩) (hS.out _ KK) ?_
        refine wpAnyW_one (i := 6) (by kernel_rfl) rfl (fun K hK => ?_)
        go_simp
        have hap : ∀ g', Ar = some ⟨g', 0, none⟩ → g' ≠ u2.heap.size := fun g' e => Nat.ne_of_lt (own_block ores e).2
        replace hap := Lib.hid hap
        replace ores := Own.alloc ores (.cells #[.bool false, .slice none 0 0] 24)
        have bal := Bx.new u2 (.bool false) (.slice none 0 0)
        have hwg : w36.heap.size ≤ u2.heap.size := KK.size
        replace KK := Below.alloc KK KK.size (.cells #[.bool false, .slice none 0 0] 24)
        refine hK.out _ _ (fun _ => hS.out _ KK) ?_
        generalize u2.alloc (.cells #[.bool false, .slice none 0 0] 24) = u3 at *
        generalize u2.heap.size = g4 at *
        refine wpAnyW_one (i := 7) (by kernel_rfl) rfl (fun K hK => ?_)
        obtain ⟨t0, t1, t2, t3⟩ := bal.facts
        go_simp
        have hc := hS.out _ ((KK.setCell (p := ⟨g4, 0, none⟩) hwg (.bool (decide (zn < 0)))).setCell (p := ⟨g4, 1, none⟩) hwg (.slice Ar (digs W zn.natAbs).length cr))
        refine hK.out _ _ (fun _ => hc) ?_
        refine wpAnyW_one (i := 8) (by kernel_rfl) rfl (fun K hK => ?_)
        go_simp
        refine hK.out _ _ (fun h => absurd h (by simp)) ?_
        refine wpAnyW_done (by kernel_rfl) ?_ _
        go_wp2_with fail
        go_meet
        exact ⟨g4, Ar, cr, rfl, rfl, Bx.set bal _ _, hwg, (ores.far (p := ⟨g4, 0, none⟩) hap.out _).far (p := ⟨g4, 1, none⟩) hap.out _, hap, (KK.setCell hwg _).setCell hwg _⟩
      · go_simp
        replace omi := Own.alloc omi (.cells #[.bool false, .slice none 0 0] 24)
        have bal := Bx.new u1 (.bool false) (.slice none 0 0)
        have hwg : w36.heap.size ≤ u1.heap.size := KK.size
        replace KK := Below.alloc KK KK.size (.cells #[.bool false, .slice none 0 0] 24)
        refine hK.out _ _ (fun _ => hS.out _ KK) ?_
        generalize u1.alloc (.cells #[.bool false, .slice none 0 0] 24) = u5 at *
        generalize u1.heap.size = g6 at *
        refine wpAnyW_one (i := 2) (by kernel_rfl) rfl (fun K hK => ?_)
        go_simp
        (with_reducible refine (Sub_z (Own.int omi) (hR.out _ KK) (Nat.le_trans (not_too_len T_m1.out) (by decide)) (Nat.le_trans HM_a.out.2.1 (by decide)) (ival_digs m1) HI_a.out EM.out T_m1.out T_za.out T_zn.out).mono ?_)
        rintro ex u7 ⟨v, rfl, ⟨Ar, cr, rfl, ores⟩, hbb⟩
        have lt1 := Bx.lt bal
        have hap : ∀ g', Ar = some ⟨g', 0, none⟩ → g' ≠ g6 := fun g' e => by have := (own_block ores e).1; omega
        replace hap := Lib.hid hap
        clear lt1
        replace bal := Bx.below bal hbb (Bx.lt bal)
        replace ores := Own.mono ores KK.size
        replace KK := KK.trans (hbb.mono KK.size)
        clear hbb omi
        refine hK.out _ _ (fun _ => hS.out _ KK) ?_
        refine wpAnyW_take 8 (i := 3) (v := .tuple #[.agg #[.bool (decide (zn < 0)), .slice Ar (digs W zn.natAbs).length cr], .int .i64 0]) rfl (by kernel_rfl) (by kernel_rfl) (by kernel_rfl) (by kernel_rfl) (fun _ _ _ h => h) (Or.inl ⟨by kernel_rfl, fun w5 hSw => by go_simp⟩) (hS.out _ KK) ?_
        refine wpAnyW_take 8 (i := 4) (v := .agg #[.bool (decide (zn < 0)), .slice Ar (digs W zn.natAbs).length cr]) rfl (by kernel_rfl) (by kernel_rfl) (by kernel_rfl) (by kernel_rfl) (fun _ _ _ h => h) (Or.inl ⟨by kernel_rfl, fun w5 hSw => by go_simp⟩) (hS.out _ KK) ?_
        refine wpAnyW_take 8 (i := 5) (v := .int .i64 0) rfl (by kernel_rfl) (by kernel_rfl) (by kernel_rfl) (by kernel_rfl) (fun _ _ _ h => h) (Or.inl ⟨by kernel_rfl, fun w5 hSw => by go_simp⟩) (hS.out _ KK) ?_
        go_simp
        refine wpAnyW_one (i := 7) (by kernel_rfl) rfl (fun K hK => ?_)
        obtain ⟨t0, t1, t2, t3⟩ := bal.facts
        go_simp
        have hc := hS.out _ ((KK.setCell (p := ⟨g6, 0, none⟩) hwg (.bool (decide (zn < 0)))).setCell (p := ⟨g6, 1, none⟩) hwg (.slice Ar (digs W zn.natAbs).length cr))
        refine hK.out _ _ (fun _ => hc) ?_
        refine wpAnyW_one (i := 8) (by kernel_rfl) rfl (fun K hK => ?_)
        go_simp
        refine hK.out _ _ (fun h => absurd h (by simp)) ?_
        refine wpAnyW_done (by kernel_rfl) ?_ _
        go_wp2_with fail
        go_meet
        exact ⟨g6, Ar, cr, rfl, rfl, Bx.set bal _ _, hwg, (ores.far (p := ⟨g6, 0, none⟩) hap.out _).far (p := ⟨g6, 1, none⟩) hap.out _, hap, (KK.setCell hwg _).setCell hwg _⟩
    · go_simp
      have bal := Bx.new u0 (.bool false) (.slice none 0 0)
      have hwg : w36.heap.size ≤ u0.heap.size := KK.size
      replace KK := Below.alloc KK KK.size (.cells #[.bool false, .slice none 0 0] 24)
      refine hK.out _ _ (fun _ => hS.out _ KK) ?_
      generalize u0.alloc (.cells #[.bool false, .slice none 0 0] 24) = u8 at *
      generalize u0.heap.size = g9 at *
      refine wpAnyW_one (i := 0) (by kernel_rfl) rfl (fun K hK => ?_)
      go_simp
      (with_reducible refine (HM1.out _).mono ?_)
      rintro ex u10 ⟨v, rfl, ⟨Am, cm, rfl, omi⟩, hbb⟩
      replace bal := Bx.below bal hbb (Bx.lt bal)
      replace KK := KK.trans (hbb.mono KK.size)
      clear hbb
      refine hK.out _ _ (fun _ => hS.out _ KK) ?_
      refine wpAnyW_one (i := 2) (by kernel_rfl) rfl (fun K hK => ?_)
      go_simp
      (with_reducible refine (Sub_z (Own.int omi) (hR.out _ KK) (Nat.le_trans (not_too_len T_m1.out) (by decide)) (Nat.le_trans HM_a.out.2.1 (by decide)) (ival_digs m1) HI_a.out EM.out T_m1.out T_za.out T_zn.out).mono ?_)
      rintro ex u11 ⟨v, rfl, ⟨Ar, cr, rfl, ores⟩, hbb⟩
      have lt1 := Bx.lt bal
      have hap : ∀ g', Ar = some ⟨g', 0, none⟩ → g' ≠ g9 := fun g' e => by have := (own_block ores e).1; omega
      replace hap := Lib.hid hap
      clear lt1
      replace bal := Bx.below bal hbb (Bx.lt bal)
      replace ores := Own.mono ores KK.size
      replace KK := KK.trans (hbb.mono KK.size)
      clear hbb omi
      refine hK.out _ _ (fun _ => hS.out _ KK) ?_
      refine wpAnyW_take 8 (i := 3) (v := .tuple #[.agg #[.bool (decide (zn < 0)), .slice Ar (digs W zn.natAbs).length cr], .int .i64 0]) rfl (by kernel_rfl) (by kernel_rfl) (by kernel_rfl) (by kernel_rfl) (fun _ _ _ h => h) (Or.inl ⟨by kernel_rfl, fun w5 hSw => by go_simp⟩) (hS.out _ KK) ?_
      refine wpAnyW_take 8 (i := 4) (v := .agg #[.bool (decide (zn < 0)), .slice Ar (digs W zn.natAbs).length cr]) rfl (by kernel_rfl) (by kernel_rfl) (by kernel_rfl) (by kernel_rfl) (fun _ _ _ h => h) (Or.inl ⟨by kernel_rfl, fun w5 hSw => by go_simp⟩) (hS.out _ KK) ?_
      refine wpAnyW_take 8 (i := 5) (v := .int .i64 0) rfl (by kernel_rfl) (by kernel_rfl) (by kernel_rfl) (by kernel_rfl) (fun _ _ _ h => h) (Or.inl ⟨by kernel_rfl, fun w5 hSw => by go_simp⟩) (hS.out _ KK) ?_
      go_simp
      refine wpAnyW_one (i := 7) (by kernel_rfl) rfl (fun K hK => ?_)
      obtain ⟨t0, t1, t2, t3⟩ := bal.facts
      go_simp
      have hc := hS.out _ ((KK.setCell (p := ⟨g9, 0, none⟩) hwg (.bool (decide (zn < 0)))).setCell (p := ⟨g9, 1, none⟩) hwg (.slice Ar (digs W zn.natAbs).length cr))
      refine hK.out _ _ (fun _ => hc) ?_
      refine wpAnyW_one (i := 8) (by kernel_rfl) rfl (fun K hK => ?_)
      go_simp
      refine hK.out _ _ (fun h => absurd h (by simp)) ?_
      refine wpAnyW_done (by kernel_rfl) ?_ _
      go_wp2_with fail
      go_meet
      exact ⟨g9, Ar, cr, rfl, rfl, Bx.set bal _ _, hwg, (ores.far (p := ⟨g9, 0, none⟩) hap.out _).far (p := ⟨g9, 1, none⟩) hap.out _, hap, (KK.setCell hwg _).setCell hwg _⟩
  obtain ⟨g15, A15, c15, rfl, rfl, hx15, hg15, ho15, hn15, hb15⟩ := hcut
  have HN95 : Hid (Env w wc [⟨g15, (decide (zn < 0)), A15, (digs W zn.natAbs).length, c15, (digs W zn.natAbs)⟩, ⟨g36, (decide (zn < 0)), A36, (digs W zn.natAbs).length, c36, (digs W zn.natAbs)⟩, ⟨g31, (decide (za < 0)), A31, (digs W za.natAbs).length, c31, (digs W za.natAbs)⟩, ⟨g28, (decide (zv < 0)), A28, (digs W zv.natAbs).length, c28, (digs W zv.natAbs)⟩, ⟨g22, (decide (zl < 0)), A22, (digs W zl.natAbs).length, c22, (digs W zl.natAbs)⟩, ⟨g19, (decide (zz < 0)), A19, (digs W zz.natAbs).length, c19, (digs W zz.natAbs)⟩, ⟨g16, (decide (zy < 0)), A16, (digs W zy.natAbs).length, c16, (digs W zy.natAbs)⟩, ⟨g13, (decide (zl < 0)), A13, (digs W zl.natAbs).length, c13, (digs W zl.natAbs)⟩, ⟨g10, (decide (zx < 0)), A10, (digs W zx.natAbs).length, c10, (digs W zx.natAbs)⟩, ⟨w.heap.size + 1 + 1, nc, A7, m_c, c7, l_c⟩, ⟨w.heap.size + 1, nb, A5, m_b, c5, l_b⟩, ⟨w.heap.size, na, A3, m_a, c3, l_a⟩] ∧ Old wc [⟨g15, (decide (zn < 0)), A15, (digs W zn.natAbs).length, c15, (digs W zn.natAbs)⟩, ⟨g36, (decide (zn < 0)), A36, (digs W zn.natAbs).length, c36, (digs W zn.natAbs)⟩, ⟨g31, (decide (za < 0)), A31, (digs W za.natAbs).length, c31, (digs W za.natAbs)⟩, ⟨g28, (decide (zv < 0)), A28, (digs W zv.natAbs).length, c28, (digs W zv.natAbs)⟩, ⟨g22, (decide (zl < 0)), A22, (digs W zl.natAbs).length, c22, (digs W zl.natAbs)⟩, ⟨g19, (decide (zz < 0)), A19, (digs W zz.natAbs).length, c19, (digs W zz.natAbs)⟩, ⟨g16, (decide (zy < 0)), A16, (digs W zy.natAbs).length, c16, (digs W zy.natAbs)⟩, ⟨g13, (decide (zl < 0)), A13, (digs W zl.natAbs).length, c13, (digs W zl.natAbs)⟩, ⟨g10, (decide (zx < 0)), A10, (digs W zx.natAbs).length, c10, (digs W zx.natAbs)⟩, ⟨w.heap.size + 1 + 1, nc, A7, m_c, c7, l_c⟩, ⟨w.heap.size + 1, nb, A5, m_b, c5, l_b⟩, ⟨w.heap.size, na, A3, m_a, c3, l_a⟩]) := Lib.hid (Env.add HN36.out.1 HN36.out.2 hb15 hx15 hg15 ho15 hn15.out (dig_digs (by decide) _) rfl)
  clear hx15 hg15 ho15 hn15 hb15
  go_upto_region 16 with fail
  obtain ⟨x37a, x37b, x37c, x37d⟩ := (HN95.out.1.x (.tail _ (.head _))).facts
  obtain ⟨x38a, x38b, x38c, x38d⟩ := (HN95.out.1.x (.head _)).facts
  go_wp2_with fail
  refine (same_z (HN95.out.1.s (.tail _ (.head _))) (HN95.out.1.s (.head _)) (ival_digs zn) (ival_digs zn)).mono ?_
  rintro ex w39' ⟨rfl, hb39⟩
  have HN39 : Hid (Env w w39' [⟨g15, (decide (zn < 0)), A15, (digs W zn.natAbs).length, c15, (digs W zn.natAbs)⟩, ⟨g36, (decide (zn < 0)), A36, (digs W zn.natAbs).length, c36, (digs W zn.natAbs)⟩, ⟨g31, (decide (za < 0)), A31, (digs W za.natAbs).length, c31, (digs W za.natAbs)⟩, ⟨g28, (decide (zv < 0)), A28, (digs W zv.natAbs).length, c28, (digs W zv.natAbs)⟩, ⟨g22, (decide (zl < 0)), A22, (digs W zl.natAbs).length, c22, (digs W zl.natAbs)⟩, ⟨g19, (decide (zz < 0)), A19, (digs W zz.natAbs).length, c19, (digs W zz.natAbs)⟩, ⟨g16, (decide (zy < 0)), A16, (digs W zy.natAbs).length, c16, (digs W zy.natAbs)⟩, ⟨g13, (decide (zl < 0)), A13, (digs W zl.natAbs).length, c13, (digs W zl.natAbs)⟩, ⟨g10, (decide (zx < 0)), A10, (digs W zx.natAbs).length, c10, (digs W zx.natAbs)⟩, ⟨w.heap.size + 1 + 1, nc, A7, m_c, c7, l_c⟩, ⟨w.heap.size + 1, nb, A5, m_b, c5, l_b⟩, ⟨w.heap.size, na, A3, m_a, c3, l_a⟩] ∧ Old w39' [⟨g15, (decide (zn < 0)), A15, (digs W zn.natAbs).length, c15, (digs W zn.natAbs)⟩, ⟨g36, (decide (zn < 0)), A36, (digs W zn.natAbs).length, c36, (digs W zn.natAbs)⟩, ⟨g31, (decide (za < 0)), A31, (digs W za.natAbs).length, c31, (digs W za.natAbs)⟩, ⟨g28, (decide (zv < 0)), A28, (digs W zv.natAbs).length, c28, (digs W zv.natAbs)⟩, ⟨g22, (decide (zl < 0)), A22, (digs W zl.natAbs).length, c22, (digs W zl.natAbs)⟩, ⟨g19, (decide (zz < 0)), A19, (digs W zz.natAbs).length, c19, (digs W zz.natAbs)⟩, ⟨g16, (decide (zy < 0)), A16, (digs W zy.natAbs).length, c16, (digs W zy.natAbs)⟩, ⟨g13, (decide (zl < 0)), A13, (digs W zl.natAbs).length, c13, (digs W zl.natAbs)⟩, ⟨g10, (decide (zx < 0)), A10, (digs W zx.natAbs).length, c10, (digs W zx.natAbs)⟩, ⟨w.heap.size + 1 + 1, nc, A7, m_c, c7, l_c⟩, ⟨w.heap.size + 1, nb, A5, m_b, c5, l_b⟩, ⟨w.heap.size, na, A3, m_a, c3, l_a⟩]) := Lib.hid ⟨HN95.out.1.below hb39, HN95.out.2.below hb39⟩
  clear hb39 x37a x37b x37c x37d x38a x38b x38c x38d
  go_upto_region 17 with fail
  go_upto_region 17 with fail
  obtain ⟨x40a, x40b, x40c, x40d⟩ := (HN39.out.1.x (.tail _ (.tail _ (.tail _ (.tail _ (.tail _ (.tail _ (.tail _ (.tail _ (.tail _ (.tail _ (.tail _ (.head _))))))))))))).facts
  obtain ⟨x41a, x41b, x41c, x41d⟩ := (HN39.out.1.x (.tail _ (.tail _ (.tail _ (.tail _ (.tail _ (.tail _ (.tail _ (.tail _ (.tail _ (.tail _ (.head _)))))))))))).facts
  go_wp2_with fail
  refine (Or_z (HN39.out.1.s (.tail _ (.tail _ (.tail _ (.tail _ (.tail _ (.tail _ (.tail _ (.tail _ (.tail _ (.tail _ (.tail _ (.head _))))))))))))) (HN39.out.1.s (.tail _ (.tail _ (.tail _ (.tail _ (.tail _ (.tail _ (.tail _ (.tail _ (.tail _ (.tail _ (.head _)))))))))))) (Nat.le_trans HM_a.out.2.1 (by decide)) (Nat.le_trans HM_b.out.2.1 (by decide)) HI_a.out HI_b.out EO.out T_za.out T_zb.out T_zo.out).mono ?_
  rintro ex w42' ⟨v, rfl, ⟨A42, c42, rfl, ho42⟩, hb42⟩
  have HN42 : Hid (Env w (w42'.alloc (.cells #[.bool (decide (zo < 0)), .slice A42 (digs W zo.natAbs).length c42] 24)) [⟨w42'.heap.size, (decide (zo < 0)), A42, (digs W zo.natAbs).length, c42, (digs W zo.natAbs)⟩, ⟨g15, (decide (zn < 0)), A15, (digs W zn.natAbs).length, c15, (digs W zn.natAbs)⟩, ⟨g36, (decide (zn < 0)), A36, (digs W zn.natAbs).length, c36, (digs W zn.natAbs)⟩, ⟨g31, (decide (za < 0)), A31, (digs W za.natAbs).length, c31, (digs W za.natAbs)⟩, ⟨g28, (decide (zv < 0)), A28, (digs W zv.natAbs).length, c28, (digs W zv.natAbs)⟩, ⟨g22, (decide (zl < 0)), A22, (digs W zl.natAbs).length, c22, (digs W zl.natAbs)⟩, ⟨g19, (decide (zz < 0)), A19, (digs W zz.natAbs).length, c19, (digs W zz.natAbs)⟩, ⟨g16, (decide (zy < 0)), A16, (digs W zy.natAbs).length, c16, (digs W zy.natAbs)⟩, ⟨g13, (decide (zl < 0)), A13, (digs W zl.natAbs).length, c13, (digs W zl.natAbs)⟩, ⟨g10, (decide (zx < 0)), A10, (digs W zx.natAbs).length, c10, (digs W zx.natAbs)⟩, ⟨w.heap.size + 1 + 1, nc, A7, m_c, c7, l_c⟩, ⟨w.heap.size + 1, nb, A5, m_b, c5, l_b⟩, ⟨w.heap.size, na, A3, m_a, c3, l_a⟩] ∧ Old (w42'.alloc (.cells #[.bool (decide (zo < 0)), .slice A42 (digs W zo.natAbs).length c42] 24)) [⟨w42'.heap.size, (decide (zo < 0)), A42, (digs W zo.natAbs).length, c42, (digs W zo.natAbs)⟩, ⟨g15, (decide (zn < 0)), A15, (digs W zn.natAbs).length, c15, (digs W zn.natAbs)⟩, ⟨g36, (decide (zn < 0)), A36, (digs W zn.natAbs).length, c36, (digs W zn.natAbs)⟩, ⟨g31, (decide (za < 0)), A31, (digs W za.natAbs).length, c31, (digs W za.natAbs)⟩, ⟨g28, (decide (zv < 0)), A28, (digs W zv.natAbs).length, c28, (digs W zv.natAbs)⟩, ⟨g22, (decide (zl < 0)), A22, (digs W zl.natAbs).length, c22, (digs W zl.natAbs)⟩, ⟨g19, (decide (zz < 0)), A19, (digs W zz.natAbs).length, c19, (digs W zz.natAbs)⟩, ⟨g16, (decide (zy < 0)), A16, (digs W zy.natAbs).length, c16, (digs W zy.natAbs)⟩, ⟨g13, (decide (zl < 0)), A13, (digs W zl.natAbs).length, c13, (digs W zl.natAbs)⟩, ⟨g10, (decide (zx < 0)), A10, (digs W zx.natAbs).length, c10, (digs W zx.natAbs)⟩, ⟨w.heap.size + 1 + 1, nc, A7, m_c, c7, l_c⟩, ⟨w.heap.size + 1, nb, A5, m_b, c5, l_b⟩, ⟨w.heap.size, na, A3, m_a, c3, l_a⟩]) := Lib.hid (Env.call_push HN39.out.1 HN39.out.2 hb42 ho42 (dig_digs (by decide) _) rfl)
  clear ho42 hb42 x40a x40b x40c x40d x41a x41b x41c x41d
  go_upto_region 18 with fail
  generalize (w42'.alloc (.cells #[.bool (decide (zo < 0)), .slice A42 (digs W zo.natAbs).length c42] 24)) = w42 at *
  generalize w42'.heap.size = g42 at *
  go_upto_region 18 with fail
  obtain ⟨x43a, x43b, x43c, x43d⟩ := (HN42.out.1.x (.tail _ (.tail _ (.tail _ (.tail _ (.tail _ (.tail _ (.tail _ (.head _))))))))).facts
  obtain ⟨x44a, x44b, x44c, x44d⟩ := (HN42.out.1.x (.head _)).facts
  go_wp2_with fail
  refine (Add_z (HN42.out.1.s (.tail _ (.tail _ (.tail _ (.tail _ (.tail _ (.tail _ (.tail _ (.head _))))))))) (HN42.out.1.s (.head _)) (Nat.le_trans (not_too_len T_zy.out) (by decide)) (Nat.le_trans (not_too_len T_zo.out) (by decide)) (ival_digs zy) (ival_digs zo) ES.out T_zy.out T_zo.out T_zt.out).mono ?_
  rintro ex w45' ⟨v, rfl, ⟨A45, c45, rfl, ho45⟩, hb45⟩
  have HN45 : Hid (Env w (w45'.alloc (.cells #[.bool (decide (zt < 0)), .slice A45 (digs W zt.natAbs).length c45] 24)) [⟨w45'.heap.size, (decide (zt < 0)), A45, (digs W zt.natAbs).length, c45, (digs W zt.natAbs)⟩, ⟨g42, (decide (zo < 0)), A42, (digs W zo.natAbs).length, c42, (digs W zo.natAbs)⟩, ⟨g15, (decide (zn < 0)), A15, (digs W zn.natAbs).length, c15, (digs W zn.natAbs)⟩, ⟨g36, (decide (zn < 0)), A36, (digs W zn.natAbs).length, c36, (digs W zn.natAbs)⟩, ⟨g31, (decide (za < 0)), A31, (digs W za.natAbs).length, c31, (digs W za.natAbs)⟩, ⟨g28, (decide (zv < 0)), A28, (digs W zv.natAbs).length, c28, (digs W zv.natAbs)⟩, ⟨g22, (decide (zl < 0)), A22, (digs W zl.natAbs).length, c22, (digs W zl.natAbs)⟩, ⟨g19, (decide (zz < 0)), A19, (digs W zz.natAbs).length, c19, (digs W zz.natAbs)⟩, ⟨g16, (decide (zy < 0)), A16, (digs W zy.natAbs).length, c16, (digs W zy.natAbs)⟩, ⟨g13, (decide (zl < 0)), A13, (digs W zl.natAbs).length, c13, (digs W zl.natAbs)⟩, ⟨g10, (decide (zx < 0)), A10, (digs W zx.natAbs).length, c10, (digs W zx.natAbs)⟩, ⟨w.heap.size + 1 + 1, nc, A7, m_c, c7, l_c⟩, ⟨w.heap.size + 1, nb, A5, m_b, c5, l_b⟩, ⟨w.heap.size, na, A3, m_a, c3, l_a⟩] ∧ Old (w45'.alloc (.cells #[.bool (decide (zt < 0)), .slice A45 (digs W zt.natAbs).length c45] 24)) [⟨w45'.heap.size, (decide (zt < 0)), A45, (digs W zt.natAbs).length, c45, (digs W zt.natAbs)⟩, ⟨g42, (decide (zo < 0)), A42, (digs W zo.natAbs).length, c42, (digs W zo.natAbs)⟩, ⟨g15, (decide (zn < 0)), A15, (digs W zn.natAbs).length, c15, (digs W zn.natAbs)⟩, ⟨g36, (decide (zn < 0)), A36, (digs W zn.natAbs).length, c36, (digs W zn.natAbs)⟩, ⟨g31, (decide (za < 0)), A31, (digs W za.natAbs).length, c31, (digs W za.natAbs)⟩, ⟨g28, (decide (zv < 0)), A28, (digs W zv.natAbs).length, c28, (digs W zv.natAbs)⟩, ⟨g22, (decide (zl < 0)), A22, (digs W zl.natAbs).length, c22, (digs W zl.natAbs)⟩, ⟨g19, (decide (zz < 0)), A19, (digs W zz.natAbs).length, c19, (digs W zz.natAbs)⟩, ⟨g16, (decide (zy < 0)), A16, (digs W zy.natAbs).length, c16, (digs W zy.natAbs)⟩, ⟨g13, (decide (zl < 0)), A13, (digs W zl.natAbs).length, c13, (digs W zl.natAbs)⟩, ⟨g10, (decide (zx < 0)), A10, (digs W zx.natAbs).length, c10, (digs W zx.natAbs)⟩, ⟨w.heap.size + 1 + 1, nc, A7, m_c, c7, l_c⟩, ⟨w.heap.size + 1, nb, A5, m_b, c5, l_b⟩, ⟨w.heap.size, na, A3, m_a, c3, l_a⟩]) := Lib.hid (Env.call_push HN42.out.1 HN42.out.2 hb45 ho45 (dig_digs (by decide) _) rfl)
  clear ho45 hb45 x43a x43b x43c x43d x44a x44b x44c x44d
  go_upto_region 19 with fail
  generalize (w45'.alloc (.cells #[.bool (decide (zt < 0)), .slice A45 (digs W zt.natAbs).length c45] 24)) = w45 at *
  generalize w45'.heap.size = g45 at *
  go_upto_region 19 with fail
  obtain ⟨x46a, x46b, x46c, x46d⟩ := (HN45.out.1.x (.tail _ (.tail _ (.tail _ (.tail _ (.tail _ (.tail _ (.tail _ (.tail _ (.tail _ (.tail _ (.tail _ (.tail _ (.tail _ (.head _))))))))))))))).facts
  obtain ⟨x47a, x47b, x47c, x47d⟩ := (HN45.out.1.x (.tail _ (.tail _ (.tail _ (.tail _ (.tail _ (.tail _ (.tail _ (.tail _ (.tail _ (.tail _ (.tail _ (.tail _ (.head _)))))))))))))).facts
  go_wp2_with fail
  refine (Add_z (HN45.out.1.s (.tail _ (.tail _ (.tail _ (.tail _ (.tail _ (.tail _ (.tail _ (.tail _ (.tail _ (.tail _ (.tail _ (.tail _ (.tail _ (.head _))))))))))))))) (HN45.out.1.s (.tail _ (.tail _ (.tail _ (.tail _ (.tail _ (.tail _ (.tail _ (.tail _ (.tail _ (.tail _ (.tail _ (.tail _ (.head _)))))))))))))) (Nat.le_trans HM_a.out.2.1 (by decide)) (Nat.le_trans HM_b.out.2.1 (by decide)) HI_a.out HI_b.out ET.out T_za.out T_zb.out T_zt.out).mono ?_
  rintro ex w48' ⟨v, rfl, ⟨A48, c48, rfl, ho48⟩, hb48⟩
  have HN48 : Hid (Env w (w48'.alloc (.cells #[.bool (decide (zt < 0)), .slice A48 (digs W zt.natAbs).length c48] 24)) [⟨w48'.heap.size, (decide (zt < 0)), A48, (digs W zt.natAbs).length, c48, (digs W zt.natAbs)⟩, ⟨g45, (decide (zt < 0)), A45, (digs W zt.natAbs).length, c45, (digs W zt.natAbs)⟩, ⟨g42, (decide (zo < 0)), A42, (digs W zo.natAbs).length, c42, (digs W zo.natAbs)⟩, ⟨g15, (decide (zn < 0)), A15, (digs W zn.natAbs).length, c15, (digs W zn.natAbs)⟩, ⟨g36, (decide (zn < 0)), A36, (digs W zn.natAbs).length, c36, (digs W zn.natAbs)⟩, ⟨g31, (decide (za < 0)), A31, (digs W za.natAbs).length, c31, (digs W za.natAbs)⟩, ⟨g28, (decide (zv < 0)), A28, (digs W zv.natAbs).length, c28, (digs W zv.natAbs)⟩, ⟨g22, (decide (zl < 0)), A22, (digs W zl.natAbs).length, c22, (digs W zl.natAbs)⟩, ⟨g19, (decide (zz < 0)), A19, (digs W zz.natAbs).length, c19, (digs W zz.natAbs)⟩, ⟨g16, (decide (zy < 0)), A16, (digs W zy.natAbs).length, c16, (digs W zy.natAbs)⟩, ⟨g13, (decide (zl < 0)), A13, (digs W zl.natAbs).length, c13, (digs W zl.natAbs)⟩, ⟨g10, (decide (zx < 0)), A10, (digs W zx.natAbs).length, c10, (digs W zx.natAbs)⟩, ⟨w.heap.size + 1 + 1, nc, A7, m_c, c7, l_c⟩, ⟨w.heap.size + 1, nb, A5, m_b, c5, l_b⟩, ⟨w.heap.size, na, A3, m_a, c3, l_a⟩] ∧ Old (w48'.alloc (.cells #[.bool (decide (zt < 0)), .slice A48 (digs W zt.natAbs).length c48] 24)) [⟨w48'.heap.size, (decide (zt < 0)), A48, (digs W zt.natAbs).length, c48, (digs W zt.natAbs)⟩, ⟨g45, (decide (zt < 0)), A45, (digs W zt.natAbs).length, c45, (digs W zt.natAbs)⟩, ⟨g42, (decide (zo < 0)), A42, (digs W zo.natAbs).length, c42, (digs W zo.natAbs)⟩, ⟨g15, (decide (zn < 0)), A15, (digs W zn.natAbs).length, c15, (digs W zn.natAbs)⟩, ⟨g36, (decide (zn < 0)), A36, (digs W zn.natAbs).length, c36, (digs W zn.natAbs)⟩, ⟨g31, (decide (za < 0)), A31, (digs W za.natAbs).length, c31, (digs W za.natAbs)⟩, ⟨g28, (decide (zv < 0)), A28, (digs W zv.natAbs).length, c28, (digs W zv.natAbs)⟩, ⟨g22, (decide (zl < 0)), A22, (digs W zl.natAbs).length, c22, (digs W zl.natAbs)⟩, ⟨g19, (decide (zz < 0)), A19, (digs W zz.natAbs).length, c19, (digs W zz.natAbs)⟩, ⟨g16, (decide (zy < 0)), A16, (digs W zy.natAbs).length, c16, (digs W zy.natAbs)⟩, ⟨g13, (decide (zl < 0)), A13, (digs W zl.natAbs).length, c13, (digs W zl.natAbs)⟩, ⟨g10, (decide (zx < 0)), A10, (digs W zx.natAbs).length, c10, (digs W zx.natAbs)⟩, ⟨w.heap.size + 1 + 1, nc, A7, m_c, c7, l_c⟩, ⟨w.heap.size + 1, nb, A5, m_b, c5, l_b⟩, ⟨w.heap.size, na, A3, m_a, c3, l_a⟩]) := Lib.hid (Env.call_push HN45.out.1 HN45.out.2 hb48 ho48 (dig_digs (by decide) _) rfl)
  clear ho48 hb48 x46a x46b x46c x46d x47a x47b x47c x47d
  go_upto_region 20 with fail
  generalize (w48'.alloc (.cells #[.bool (decide (zt < 0)), .slice A48 (digs W zt.natAbs).length c48] 24)) = w48 at *
  generalize w48'.heap.size = g48 at *
  go_upto_region 20 with fail
  obtain ⟨x49a, x49b, x49c, x49d⟩ := (HN48.out.1.x (.tail _ (.head _))).facts
  obtain ⟨x50a, x50b, x50c, x50d⟩ := (HN48.out.1.x (.head _)).facts
  go_wp2_with fail
  refine (same_z (HN48.out.1.s (.tail _ (.head _))) (HN48.out.1.s (.head _)) (ival_digs zt) (ival_digs zt)).mono ?_
  rintro ex w51' ⟨rfl, hb51⟩
  have HN51 : Hid (Env w w51' [⟨g48, (decide (zt < 0)), A48, (digs W zt.natAbs).length, c48, (digs W zt.natAbs)⟩, ⟨g45, (decide (zt < 0)), A45, (digs W zt.natAbs).length, c45, (digs W zt.natAbs)⟩, ⟨g42, (decide (zo < 0)), A42, (digs W zo.natAbs).length, c42, (digs W zo.natAbs)⟩, ⟨g15, (decide (zn < 0)), A15, (digs W zn.natAbs).length, c15, (digs W zn.natAbs)⟩, ⟨g36, (decide (zn < 0)), A36, (digs W zn.natAbs).length, c36, (digs W zn.natAbs)⟩, ⟨g31, (decide (za < 0)), A31, (digs W za.natAbs).length, c31, (digs W za.natAbs)⟩, ⟨g28, (decide (zv < 0)), A28, (digs W zv.natAbs).length, c28, (digs W zv.natAbs)⟩, ⟨g22, (decide (zl < 0)), A22, (digs W zl.natAbs).length, c22, (digs W zl.natAbs)⟩, ⟨g19, (decide (zz < 0)), A19, (digs W zz.natAbs).length, c19, (digs W zz.natAbs)⟩, ⟨g16, (decide (zy < 0)), A16, (digs W zy.natAbs).length, c16, (digs W zy.natAbs)⟩, ⟨g13, (decide (zl < 0)), A13, (digs W zl.natAbs).length, c13, (digs W zl.natAbs)⟩, ⟨g10, (decide (zx < 0)), A10, (digs W zx.natAbs).length, c10, (digs W zx.natAbs)⟩, ⟨w.heap.size + 1 + 1, nc, A7, m_c, c7, l_c⟩, ⟨w.heap.size + 1, nb, A5, m_b, c5, l_b⟩, ⟨w.heap.size, na, A3, m_a, c3, l_a⟩] ∧ Old w51' [⟨g48, (decide (zt < 0)), A48, (digs W zt.natAbs).length, c48, (digs W zt.natAbs)⟩, ⟨g45, (decide (zt < 0)), A45, (digs W zt.natAbs).length, c45, (digs W zt.natAbs)⟩, ⟨g42, (decide (zo < 0)), A42, (digs W zo.natAbs).length, c42, (digs W zo.natAbs)⟩, ⟨g15, (decide (zn < 0)), A15, (digs W zn.natAbs).length, c15, (digs W zn.natAbs)⟩, ⟨g36, (decide (zn < 0)), A36, (digs W zn.natAbs).length, c36, (digs W zn.natAbs)⟩, ⟨g31, (decide (za < 0)), A31, (digs W za.natAbs).length, c31, (digs W za.natAbs)⟩, ⟨g28, (decide (zv < 0)), A28, (digs W zv.natAbs).length, c28, (digs W zv.natAbs)⟩, ⟨g22, (decide (zl < 0)), A22, (digs W zl.natAbs).length, c22, (digs W zl.natAbs)⟩, ⟨g19, (decide (zz < 0)), A19, (digs W zz.natAbs).length, c19, (digs W zz.natAbs)⟩, ⟨g16, (decide (zy < 0)), A16, (digs W zy.natAbs).length, c16, (digs W zy.natAbs)⟩, ⟨g13, (decide (zl < 0)), A13, (digs W zl.natAbs).length, c13, (digs W zl.natAbs)⟩, ⟨g10, (decide (zx < 0)), A10, (digs W zx.natAbs).length, c10, (digs W zx.natAbs)⟩, ⟨w.heap.size + 1 + 1, nc, A7, m_c, c7, l_c⟩, ⟨w.heap.size + 1, nb, A5, m_b, c5, l_b⟩, ⟨w.heap.size, na, A3, m_a, c3, l_a⟩]) := Lib.hid ⟨HN48.out.1.below hb51, HN48.out.2.below hb51⟩
  clear hb51 x49a x49b x49c x49d x50a x50b x50c x50d
  go_upto_region 21 with fail
  go_wp2
  go_ret
  exact ⟨rfl, HN51.out.1.b⟩

theorem Sets_walk (na nb nc : Bool) {Aa Ab Ac : Option Addr} {la lb lc : List Nat} {n_a ca n_b cb n_c cc : Nat} {w : World} (hsa : SlU w w.heap.size Aa n_a ca la) (hsb : SlU w w.heap.size Ab n_b cb lb) (hsc : SlU w w.heap.size Ac n_c cc lc) (hAa : Aa = none → ca = 0) (hAb : Ab = none → cb = 0) (hAc : Ac = none → cc = 0) :
    Calls Try.prog 13 #[.agg #[.bool na, .slice Aa n_a ca], .agg #[.bool nb, .slice Ab n_b cb], .agg #[.bool nc, .slice Ac n_c cc]] w fun e w' => e = .returned (.bool true) ∧ Below w.heap.size w w' := by
  obtain ⟨l_a, m_a, hl_a, hm_a, hd_a, hf_a⟩ := few_q (neg := na) 100 (by decide) hAa hsa
  obtain ⟨l_b, m_b, hl_b, hm_b, hd_b, hf_b⟩ := few_q (neg := nb) 100 (by decide) hAb hsb
  obtain ⟨l_c, m_c, hl_c, hm_c, hd_c, hf_c⟩ := few_q (neg := nc) 100 (by decide) hAc hsc
  have Ba := few_bnd (neg := na) (k := 100) hd_a hl_a hm_a
  have Bb := few_bnd (neg := nb) (k := 100) hd_b hl_b hm_b
  have Bc := few_bnd (neg := nc) (k := 100) hd_c hl_c hm_c
  generalize hK : 32 * 100 = K at *
  exact Sets_main na nb nc hsa hsb hsc hf_a hf_b hf_c ⟨hl_a, hm_a, hd_a⟩ ⟨hl_b, hm_b, hd_b⟩ ⟨hl_c, hm_c, hd_c⟩ (Lib.hid rfl) (Lib.hid rfl) (Lib.hid rfl) (by omega) Ba Bb Bc
end Go.Proofs.Ytggdmhkdmkldoaa

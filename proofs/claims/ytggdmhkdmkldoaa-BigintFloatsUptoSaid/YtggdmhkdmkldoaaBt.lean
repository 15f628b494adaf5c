import Derived.Test.YtggdmhkdmkldoaaBs
namespace Go.Proofs.Ytggdmhkdmkldoaa
open Go.RowKit Hb

set_option maxRecDepth 100000 in
set_option maxHeartbeats 4000000 in
theorem div_long {B B' : Nat} {A A' : Option Addr} {l m : List Nat} {n c n' c' : Nat} {w : World} (hs : SlU w B A n c l) (ht : SlU w B' A' n' c' m) (hn : n ≤ 67108863) (hB : B ≤ w.heap.size) (hB' : B' ≤ w.heap.size) (hge : nv W m ≤ nv W l) (hM : 2 ≤ tlen m) :
    Calls Try.prog 70 #[.slice A n c, .slice A' n' c'] w (DivPost w (nv W l) (nv W m) (n + 1)) := by
  have H1 := Lib.hid (trim_any hs)
  have H2 := Lib.hid (trim_any ht)
  obtain ⟨cv, hcv⟩ : ∃ cv, cmpN (nv W l) (nv W m) = cv := ⟨_, rfl⟩
  have hcd : decide (cv < 0) = false := decide_eq_false (by rw [← hcv]; unfold cmpN; split <;> (try split) <;> omega)
  have HC := Lib.hid (cmp_v hs.tr ht.tr (v := cv) (by rw [nv_tr, nv_tr, hcv]))
  have hl1 := tlen_le l
  have hl2 := hs.len
  have h3 := hs.tr
  have h4 := ht.tr
  have hMN : tlen m ≤ tlen l := by
    rcases Nat.lt_or_ge (tlen l) (tlen m) with h | h
    · have := nv_lt_of_len (b := W) (by decide) hs.dig.tr (tr_nrm m) (by rw [tr_length, tr_length]; exact h)
      rw [nv_tr, nv_tr] at this
      omega
    · exact h
  have htop0 : (tr m).getD (tlen m - 1) 0 ≠ 0 := by
    have := nrm_getD (tr_nrm m) (by rw [← List.length_pos_iff, tr_length]; omega)
    rwa [tr_length] at this
  rw [← nv_tr W l, ← nv_tr W m]
  generalize tr l = l' at *
  generalize tr m = m' at *
  generalize tlen l = N at *
  generalize tlen m = M at *
  have htb : m'.getD (M - 1) 0 < 4294967296 := h4.dig.getD (by decide) _
  obtain ⟨bb, oo, rfl, hbb, hcy⟩ := h4.at_ (by omega)
  have hctop := hcy (M - 1) (by omega)
  obtain ⟨s, hse⟩ : ∃ s, s = 32 - blen (m'.getD (M - 1) 0) := ⟨_, rfl⟩
  have hs32 : s < 32 := by rw [hse]; exact (lead_num htop0 htb).1
  have HLZ := Lib.hid (fun w1 => lz_any (m'.getD (M - 1) 0) w1 htb)
  rw [← hse] at HLZ
  have HSE := Lib.hid hse
  have HT0 := Lib.hid htop0
  have HSH1 := Lib.hid (fun w1 (hd : Dr w w1) => shl_any (h4.below (hd.below w.heap.size) hB') (by omega) (by rw [hd.heap]; exact hB') hs32)
  have HSH2 := Lib.hid (fun w1 (hd : Below w.heap.size w w1) => shl_any (h3.below hd hB) (by omega) (Nat.le_trans hB hd.size) hs32)
  have H3 := Lib.hid h3
  have H4 := Lib.hid h4
  have hN9 : N ≤ 100000000 := by omega
  obtain ⟨K, hK⟩ : ∃ K, K = N - M := ⟨_, rfl⟩
  have hNK : (N : Int) - (M : Int) = (K : Int) := by omega
  have hmk := fun w => by
    have h := makeU (K + 1) (by omega) w
    rw [show ((K + 1 : Nat) : Int) = (K : Int) + 1 from by omega] at h
    exact h
  have HKe := Lib.hid hK
  have HM2 := Lib.hid hM
  have HSF := Lib.hid (show ∀ o : List Nat, Dig W o → o.length = M + 1 → nv W o = nv W m' * 2 ^ s → tlen o = M ∧ 2147483648 ≤ (tr o).getD (M - 1) 0 by
    intro o ho hol hv
    have := shifted_len (m := m') (M := M - 1) h4.dig (by rw [h4.len]; omega) ho (by omega) htop0 hse hv
    rwa [show M - 1 + 1 = M by omega] at this)
  have HKM := Lib.hid (show K ≤ n by omega)
  clear hK
  have HNn := Lib.hid (show N ≤ n by omega)
  have hM1 : ((M : Int) == 1) = false := beq_eq_false_iff_ne.2 (by omega)
  generalize m'.getD (M - 1) 0 = top at *
  have hMN0 : M ≤ N := hMN
  clear hs ht hn hl1 hl2 hge hcv hcy h3 h4 htop0 hse
  go_enter Try.func70, Try.ntmps70
  go_wp2_with fail
  refine H1.out.mono ?_; rintro e w' ⟨rfl, rfl⟩
  go_wp2_with fail
  refine H2.out.mono ?_; rintro e w' ⟨rfl, rfl⟩
  go_wp2_with fail
  refine HC.out.mono ?_; rintro e w1 ⟨rfl, hdr⟩
  have hctop1 := (hdr.cell _).trans hctop
  have HDR := Lib.hid hdr
  clear hdr
  go_wp2_with fail
  refine (HLZ.out _).mono ?_; rintro e w' ⟨rfl, rfl⟩
  go_wp2_with fail
  refine (HSH1.out _ HDR.out).mono ?_
  rintro e w2 ⟨rfl, o1, ho1l, ho1d, _, ho1v, ho1, hb1⟩
  obtain ⟨et, ev1⟩ := HSF.out o1 ho1d ho1l ho1v
  have HTR := Lib.hid (trim_any (ho1.sl ho1d ho1l))
  rw [et] at HTR
  have HB2 := Lib.hid ((HDR.out.below w.heap.size).trans (hb1.mono (by rw [HDR.out.heap]; exact Nat.le_refl _)))
  have HV := Lib.hid (show SlU w2 w2.heap.size (some ⟨w1.heap.size, 0, none⟩) M (M + 1) (tr o1) by
    have := SlU.tr (ho1.sl ho1d ho1l)
    rw [et] at this
    exact this)
  have HE1 := Lib.hid ev1
  have HOV := Lib.hid ho1v
  clear ho1 ho1l ho1d ho1v hb1 et ev1
  go_wp2_with fail
  refine HTR.out.mono ?_; rintro e w' ⟨rfl, rfl⟩
  go_wp2_with fail
  refine (HSH2.out _ HB2.out).mono ?_
  rintro e w3 ⟨rfl, o2, ho2l, ho2d, ho2t, ho2v, ho2, hb2⟩
  have HV3 := Lib.hid (HV.out.below hb2 (Nat.le_refl _))
  have HB3 := Lib.hid (HB2.out.trans (hb2.mono HB2.out.size))
  obtain ⟨gu, hgu⟩ : ∃ gu, gu = w2.heap.size := ⟨_, rfl⟩
  obtain ⟨g1, hg1⟩ : ∃ g1, g1 = w1.heap.size := ⟨_, rfl⟩
  obtain ⟨go_, hgo⟩ : ∃ go_, go_ = w3.heap.size := ⟨_, rfl⟩
  have HU3 := Lib.hid ho2.ub
  have hlt : gu < go_ := by have := ho2.ub.lt; omega
  rw [← hgu] at HU3 HV3 ⊢
  rw [← hg1] at HV3 ⊢
  have hmk3 := hmk w3
  rw [← hgo] at hmk3
  have Hgu := Lib.hid hgu
  have Hgo := Lib.hid hgo
  clear hmk ho2 HV hgu hg1 hgo
  go_wp2_with fail
  obtain ⟨wb, HQ0, HVb, HBb⟩ : ∃ wb : World, Hid (QRel w.heap.size wb gu go_ N M (K + 1) (nv W (tr o1)) (nv W o2) (w3.alloc (.cells (madeCells #[.int .u32 0] (K + 1)) 48))) ∧ Hid (SlU wb gu (some ⟨g1, 0, none⟩) M (M + 1) (tr o1)) ∧
      Hid (Below w.heap.size w wb ∧ w.heap.size ≤ gu) := by
    have hwgu : w.heap.size ≤ gu := by have := HB2.out.size; have := Hgu.out; omega
    refine ⟨w3.alloc (.cells (madeCells #[.int .u32 0] (K + 1)) 48), ?_, (HV3.out.below ((Below.refl _ _).alloc (Nat.le_refl _) _) (by have := HU3.out.lt; omega)), (HB3.out.alloc HB3.out.size _), hwgu⟩
    have hk1 : N - M + 1 = K + 1 := by have := HKe.out; omega
    have hq := QRel.start (Bo := w.heap.size) (wb := w3.alloc (.cells (madeCells #[.int .u32 0] (K + 1)) 48)) (wr := w3.alloc (.cells (madeCells #[.int .u32 0] (K + 1)) 48)) (gu := gu) (go_ := go_) (M := M) (V := nv W (tr o1)) ho2d ho2l rfl ?_ ?_ ?_ (Below.refl _ _)
    · rw [hk1] at hq; exact hq
    · have hM2 := HM2.out
      have hdl : (o2.drop (N - M + 1)).length = (M - 1) + 1 := by rw [List.length_drop]; omega
      have t1 := (nv_top (ho2d.drop (N - M + 1)) hdl).2
      have t2 := (nv_top (HV3.out.dig) (show (tr o1).length = (M - 1) + 1 by rw [HV3.out.len]; omega)).1
      rw [getD_drop, show N - M + 1 + (M - 1) = N by omega] at t1
      have h31 : (2 : Nat) ^ s ≤ 2 ^ 31 := Nat.pow_le_pow_right (by decide) (by omega)
      have := Nat.mul_le_mul_right (W ^ (M - 1)) (show o2.getD N 0 + 1 ≤ (tr o1).getD (M - 1) 0 by have := HE1.out; omega)
      omega
    · exact (Below.heap_alloc w3 _ gu HU3.out.lt).trans HU3.out
    · rw [hk1, ← u32s_zeros, Hgo.out]; exact Own.made w3 _ _ _ HB3.out.size (by simp [maxLen]; omega)
  have HO2 := Lib.hid (And.intro ho2v HOV.out)
  clear ho2l ho2d ho2t ho2v hb2 HU3 HV3 hmk3 HTR HSH1 HSH2 HLZ HSF hctop hctop1 H1 H2 HC hcd htb
  go_loopw [13] (fun iv wr => ∃ j : Nat, j ≤ K + 1 ∧ iv = .int .i64 ((j : Int) - 1) ∧ QRel w.heap.size wb gu go_ N M j (nv W (tr o1)) (nv W o2) wr) (fun iv _ => (intOf iv + 1).toNat)
  case atStart => exact ⟨K + 1, Nat.le_refl _, by go_num, HQ0.out⟩
  case round =>
    obtain ⟨j, hj, rfl, hrel⟩ := hrel
    by_cases h0 : j = 0
    · subst h0
      obtain ⟨L, o, hLl, hLd, hol, hod, hsum, hltV, hub, hown, hbel⟩ := hrel
      rw [Nat.pow_zero, Nat.one_mul, List.drop_zero] at hsum
      rw [List.drop_zero] at hltV
      have HD0 := Lib.hid (show DownRel w.heap.size wb gu go_ N M s 0 L o wr from ⟨L, hLl, hLd, rfl, by simp [nvp_zero], hub, hown, hbel⟩)
      have HSum := Lib.hid (And.intro hsum hltV)
      have HLo := Lib.hid (And.intro (And.intro hLl hLd) (And.intro hol hod))
      clear hLl hLd hol hod hsum hltV hub hown hbel HQ0
      go_wp2_with fail
      go_loopw [15] (fun iv wr => ∃ i : Nat, i ≤ N ∧ iv = .int .i64 i ∧ DownRel w.heap.size wb gu go_ N M s i L o wr) (fun iv _ => N - (intOf iv).toNat)
      case atStart => exact ⟨0, Nat.zero_le _, rfl, HD0.out⟩
      case round =>
        obtain ⟨i, hi, rfl, hdn⟩ := hrel
        by_cases hiN : i < N
        · obtain ⟨x, y, hx, hy, hcx, hcy, hfz, hnew, hstep⟩ := hdn.facts hs32 HLo.out.1.2 HLo.out.1.1 hiN hlt
          have HS := Lib.hid hstep
          have hi0 : (0 : Int) ≤ (i : Int) := by omega
          have hi1 : (i : Int) < (N : Int) + 1 := by omega
          have hi2 : (i : Int) + 1 < (N : Int) + 1 := by omega
          have hiN2 : (i : Int) < (N : Int) := by omega
          have hs0 : (0 : Int) ≤ (s : Int) := by omega
          have hs1 : (s : Int) < 32 := by omega
          have hde := down_expr hs32 hx hy
          obtain ⟨e, he⟩ : ∃ e : Nat, x / 2 ^ s + y * 2 ^ (32 - s) % 4294967296 = e := ⟨_, rfl⟩
          rw [he] at hde HS
          clear hstep hdn HD0 hnew he
          go_wp2_with fail
          go_region
          all_goals
            go_wp2_with fail
            go_roundw
            case rel => exact ⟨i + 1, by omega, by go_num, HS.out.drew⟩
            case measure => simp [intOf]; omega
        · obtain rfl : i = N := by omega
          obtain ⟨L3, h31, h32, h33, h34, h35, h36, h37⟩ := hdn
          have hfin : nv W (L3.take M) = nv W L / 2 ^ s := by
            have hLN : nv W L < W ^ M := by
              have a := nv_lt HVb.out.dig
              rw [HVb.out.len] at a
              exact Nat.lt_trans HSum.out.2 a
            have hz : L.getD i 0 = 0 := by
              have a := nv_drop_zero (b := W) (l := L) (by decide) hLN (by have := HLo.out.1.1; omega)
              have b := nv_drop_zero (b := W) (l := L) (M := i) (by decide) (Nat.lt_of_lt_of_le hLN (Nat.pow_le_pow_right (by decide) hMN0)) (by have := HLo.out.1.1; omega)
              rw [drop_nv W L (by have := HLo.out.1.1; omega)] at b
              omega
            have hdz : nv W (L.drop i) = 0 := by
              have b := nv_drop_zero (b := W) (l := L) (M := i) (by decide) (Nat.lt_of_lt_of_le hLN (Nat.pow_le_pow_right (by decide) hMN0)) (by have := HLo.out.1.1; omega)
              exact b
            rw [hdz, Nat.zero_div, Nat.mul_zero, Nat.add_zero] at h34
            have hlt2 : nvp W L3 i < W ^ M := by rw [h34]; exact Nat.lt_of_le_of_lt (Nat.div_le_self _ _) hLN
            have := nvp_mono hlt2 (by decide) hMN0
            unfold nvp at this h34
            rw [this, h34]
          have HF := Lib.hid hfin
          have HO3 := Lib.hid h35
          have HW3 := Lib.hid h36
          have HB4 := Lib.hid h37
          have HL3 := Lib.hid (And.intro h31 h32)
          have hM0 : (0 : Int) ≤ (M : Int) := by omega
          have hM1 : (M : Int) ≤ (i : Int) + 1 := by omega
          clear hfin h31 h32 h33 h34 h35 h36 h37 HD0
          go_wp2_with fail
          go_quiet (fail)
          go_wp2_with fail
          go_ret2
          have hKe := HKe.out
          have hk1 : i - M + 1 = K + 1 := by omega
          have hw := HW3.out
          rw [hk1] at hw
          have hs0 := HSum.out
          rw [nv_tr, HO2.out.1, HO2.out.2] at hs0
          obtain ⟨d1, d2, _⟩ := div_of_shift (Nat.pow_pos (by decide)) hs0.1 hs0.2
          have hL3 := HL3.out
          have ho2 := (UB.own HO3.out (B := w.heap.size) HBb.out.2 (by rw [hL3.1]; simp [maxLen]; omega)).take (k := M) (by rw [hL3.1]; omega)
          rw [u32s_take, hL3.1] at ho2
          refine ⟨_, _, _, _, _, _, o, L3.take M, rfl, hw, ?_, HLo.out.2.2, d1.symm, ?_, ho2, ?_, hL3.2.take _, ?_, ?_, .inr ?_, belowN (HBb.out.1.trans (HB4.out.mono HBb.out.2)) _⟩
          · rw [HLo.out.2.1]; omega
          · have := HKM.out; omega
          · rw [List.length_take, hL3.1]; omega
          · rw [HF.out]; exact d2.symm
          · have := HNn.out; omega
          · intro e
            injection e with e; injection e with e
            omega
    · obtain ⟨k, rfl⟩ : ∃ k, j = k + 1 := ⟨j - 1, by omega⟩
      obtain ⟨L, hub, hLd, hLl, hbel, hKn, hnext⟩ := hrel.use (vl := tr o1) (by have := HKe.out; omega) HM2.out HVb.out.dig HVb.out.len rfl HE1.out hlt
      have HD := Lib.hid (digit_any (k := k) (HVb.out.below hbel (Nat.le_refl _)) (Nat.le_refl _) hub hLd HM2.out (by have := HKe.out; omega) (by omega) rfl rfl rfl rfl hKn rfl rfl)
      have HNX := Lib.hid hnext
      have hk0 : (0 : Int) ≤ (k : Int) := by omega
      have hkM : (k : Int) + (M : Int) + 1 ≤ (N : Int) + 1 := by have := HKe.out; omega
      have hkK : (k : Int) < (K : Int) + 1 := by omega
      clear hub hbel hKn hnext hrel h0 hLd
      go_wp2_with fail
      rw [show k + M + 1 - k = M + 1 by omega]
      refine HD.out.mono ?_
      rintro e w5 ⟨rfl, L2, hrow, hval⟩
      obtain ⟨⟨u, hcu⟩, hfz, hq⟩ := HNX.out L2 w5 hrow hval
      have HQ := Lib.hid hq
      clear hq hrow hval
      go_wp2_with fail
      go_roundw
      case rel => exact ⟨k, by omega, by go_num, HQ.out⟩
      case measure => simp [intOf]

theorem divide_any {B B' : Nat} {A A' : Option Addr} {l m : List Nat} {n c n' c' : Nat} {w : World} (hs : SlU w B A n c l) (ht : SlU w B' A' n' c' m) (hn : n ≤ 67108863) (hB : B ≤ w.heap.size) (hB' : B' ≤ w.heap.size) (h0 : nv W m ≠ 0) :
    Calls Try.prog 70 #[.slice A n c, .slice A' n' c'] w (DivPost w (nv W l) (nv W m) (n + 1)) := by
  rcases Nat.lt_or_ge (nv W l) (nv W m) with h | h
  · exact div_small hs ht hn hB hB' h
  · have h1 : tlen m ≠ 0 := fun e => h0 ((tlen_zero_iff (by decide) m).1 e)
    by_cases h2 : tlen m = 1
    · exact div_one hs ht hn hB hB' h h2
    · exact div_long hs ht hn hB hB' h (by omega)
end Go.Proofs.Ytggdmhkdmkldoaa

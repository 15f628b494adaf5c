import Derived.Test.YtpikjceodmepiaaGreatDoorYdb
import Derived.Deep.DeepCutAuto
import Derived.Deep.CutBlock
import Derived.StillTailTactics
set_option linter.unusedVariables false
set_option linter.unusedSimpArgs false
namespace Go.Proofs.YtpikjceodmepiaaGreatDoor
open Go.RowKit Hb Hf
set_option linter.unusedVariables false
set_option linter.unusedSimpArgs false
attribute [local go_sem ↓] Go.wp_at_zero Go.wp_at_succ
/-! ### plus -/
theorem IBox.keepB {w w' : World} {g B : Nat} {x : Bool} {y : Value} (h : IBox w g x y) (hb : Below B w w') (hg : g < B) : IBox w' g x y := (hb.block g hg).trans h
set_option maxRecDepth 100000 in
set_option maxHeartbeats 4000000 in
theorem plus_any (na nb : Bool) {B B' : Nat} {A A' : Option Addr} {l m : List Nat} {n c n' c' : Nat} {w : World} (hs : SlU w B A n c l) (ht : SlU w B' A' n' c' m) (hn : n ≤ 33554432) (hn' : n' ≤ 33554432) (hB : B ≤ w.heap.size) (hB' : B' ≤ w.heap.size) :
    Calls Tryz.prog 51 #[.agg #[.bool na, .slice A n c], .agg #[.bool nb, .slice A' n' c']] w (PostI w (ival na l + ival nb m)) := by
  have HN1 := Lib.hid (fun w1 (hb : Below w.heap.size w w1) => norm_any na (hs.below (C := w.heap.size) hb hB) (by omega) (Nat.le_trans hB hb.size))
  have HN2 := Lib.hid (fun w1 (hb : Below w.heap.size w w1) => norm_any nb (ht.below (C := w.heap.size) hb hB') (by omega) (Nat.le_trans hB' hb.size))
  have hl1 : (digs W (ival na l).natAbs).length ≤ n := by
    rw [ival_natAbs]; refine digs_length_le (by decide) ?_; rw [← hs.len]; exact nv_lt hs.dig
  have hl2 : (digs W (ival nb m).natAbs).length ≤ n' := by
    rw [ival_natAbs]; refine digs_length_le (by decide) ?_; rw [← ht.len]; exact nv_lt ht.dig
  have i1 : IBox (w.alloc (.cells #[.bool na, .slice A n c] 56)) w.heap.size na (.slice A n c) := heap_alloc_new w _
  have i2 : IBox ((w.alloc (.cells #[.bool na, .slice A n c] 56)).alloc (.cells #[.bool nb, .slice A' n' c'] 56)) (w.alloc (.cells #[.bool na, .slice A n c] 56)).heap.size nb (.slice A' n' c') := heap_alloc_new _ _
  have i3 : IBox (((w.alloc (.cells #[.bool na, .slice A n c] 56)).alloc (.cells #[.bool nb, .slice A' n' c'] 56)).alloc (.cells #[.bool false, .slice none 0 0] 56)) ((w.alloc (.cells #[.bool na, .slice A n c] 56)).alloc (.cells #[.bool nb, .slice A' n' c'] 56)).heap.size false (.slice none 0 0) := heap_alloc_new _ _
  have j1 := (i1.below ((Below.refl _ _).alloc (Nat.le_refl _) (.cells #[.bool nb, .slice A' n' c'] 56))).below ((Below.refl _ _).alloc (Nat.le_refl _) (.cells #[.bool false, .slice none 0 0] 56))
  have j2 := i2.below ((Below.refl _ _).alloc (Nat.le_refl _) (.cells #[.bool false, .slice none 0 0] 56))
  simp only [World.size_alloc] at j2 i3
  have HX := Lib.hid (And.intro j1 (And.intro j2 i3))
  have HB0 := Lib.hid ((((Below.refl w.heap.size w).alloc (Nat.le_refl _) (.cells #[.bool na, .slice A n c] 56)).alloc (by simp) (.cells #[.bool nb, .slice A' n' c'] 56)).alloc (by simp; omega) (.cells #[.bool false, .slice none 0 0] 56))
  clear hs ht hB hB' i1 i2 i3 j1 j2
  generalize ival na l = X at *
  generalize ival nb m = Y at *
  have HL := Lib.hid (show (digs W X.natAbs).length ≤ 33554432 ∧ (digs W Y.natAbs).length ≤ 33554432 by omega)
  clear hl1 hl2 hn hn'
  go_enter Tryz.func51, Tryz.ntmps51
  go_upto_region 1 with fail
  refine wp_region_U 4 (by kernel_rfl) (fun z0 K0 hs0 => ?_)
  refine tkW 0 (v := ?tv0) K0 rfl (by kernel_rfl) ?tq0 rfl (fun z5 hS => ?ty0) ?_
  case ty0 => obtain ⟨q0, q1⟩ := (HX.out.1.below hS).cells; go_simp; rfl
  case tq0 => exact fun _ _ _ h => h
  refine tkW 2 (v := ?tv2) K0 rfl (by kernel_rfl) ?tq2 rfl (fun z5 hS => ?ty2) ?_
  case ty2 => obtain ⟨q0, q1⟩ := (HX.out.2.1.below hS).cells; go_simp; rfl
  case tq2 => exact fun _ _ _ h => h
  refine wpAnyW_one (i := 1) (by kernel_rfl) rfl (fun K hK => ?_)
  go_simp
  (with_reducible refine (HN1.out _ (HB0.out.trans (K0.mono HB0.out.size))).mono ?_)
  rintro e z1 ⟨v, rfl, ⟨A1, c1, rfl, ho1⟩, hb1⟩
  have K1 := K0.trans (hb1.mono K0.size)
  refine hK.out _ _ (fun _ => K1) ?_
  refine wpAnyW_one (i := 3) (by kernel_rfl) rfl (fun K hK => ?_)
  go_simp
  (with_reducible refine (HN2.out _ (HB0.out.trans (K1.mono HB0.out.size))).mono ?_)
  rintro e z2 ⟨v, rfl, ⟨A2, c2, rfl, ho2⟩, hb2⟩
  have K2 := K1.trans (hb2.mono K1.size)
  refine hK.out _ _ (fun _ => K2) ?_
  have hz1 := K0.size
  have hz2 := hb1.size
  have hz3 := hb2.size
  simp only [World.size_alloc] at hz1
  have b1 := HX.out.1.below K2
  have b2 := HX.out.2.1.below K2
  have b3 := HX.out.2.2.below K2
  have HS1 := Lib.hid (b1.set2 (decide (X < 0)) (.slice A1 (digs W X.natAbs).length c1))
  have HS2 := Lib.hid ((b2.gro HS1.out.2 (by omega)).set2 (decide (Y < 0)) (.slice A2 (digs W Y.natAbs).length c2))
  have HS3 := Lib.hid (HS1.out.1.gro HS2.out.2 (by omega))
  have HS4 := Lib.hid ((b3.gro HS1.out.2 (by omega)).gro HS2.out.2 (by omega))
  have HO1 := Lib.hid ((LimP.of_own (Own.below ho1 hb2 (Nat.le_refl _)) (dig_digs (by decide) _)).keep (Q := fun x => z0.heap.size ≤ x ∧ x < z2.heap.size) (w' := ((((z2.setCell ⟨w.heap.size, 0, none⟩ (.bool (decide (X < 0)))).setCell ⟨w.heap.size, 1, none⟩ (.slice A1 (digs W X.natAbs).length c1)).setCell ⟨w.heap.size + 1, 0, none⟩ (.bool (decide (Y < 0)))).setCell ⟨w.heap.size + 1, 1, none⟩ (.slice A2 (digs W Y.natAbs).length c2))) (fun x hx => ⟨hx, (HS2.out.2.block x (Nat.lt_of_lt_of_le hx.2 HS1.out.2.size) (fun e => by injection e with e; have := hx.1; omega)).trans (HS1.out.2.block x hx.2 (fun e => by injection e with e; have := hx.1; omega))⟩))
  have HO2 := Lib.hid ((LimP.of_own ho2 (dig_digs (by decide) _)).keep (Q := fun x => z0.heap.size ≤ x ∧ x < z2.heap.size) (w' := ((((z2.setCell ⟨w.heap.size, 0, none⟩ (.bool (decide (X < 0)))).setCell ⟨w.heap.size, 1, none⟩ (.slice A1 (digs W X.natAbs).length c1)).setCell ⟨w.heap.size + 1, 0, none⟩ (.bool (decide (Y < 0)))).setCell ⟨w.heap.size + 1, 1, none⟩ (.slice A2 (digs W Y.natAbs).length c2))) (fun x hx => ⟨⟨by have := hx.1; omega, hx.2⟩, (HS2.out.2.block x (Nat.lt_of_lt_of_le hx.2 HS1.out.2.size) (fun e => by injection e with e; have := hx.1; omega)).trans (HS1.out.2.block x hx.2 (fun e => by injection e with e; have := hx.1; omega))⟩))
  have HBw := Lib.hid ((((HB0.out.trans (K2.mono HB0.out.size)).grown HS1.out.2 (by first | omega | (simp; omega)) (fun j e => by injection e with e; omega)).grown HS2.out.2 (by first | omega | (simp; omega)) (fun j e => by injection e with e; omega)))
  have HZ := Lib.hid (show w.heap.size + 1 + 1 + 1 ≤ z0.heap.size ∧ z0.heap.size ≤ z2.heap.size ∧ z2.heap.size = (((((z2.setCell ⟨w.heap.size, 0, none⟩ (.bool (decide (X < 0)))).setCell ⟨w.heap.size, 1, none⟩ (.slice A1 (digs W X.natAbs).length c1)).setCell ⟨w.heap.size + 1, 0, none⟩ (.bool (decide (Y < 0)))).setCell ⟨w.heap.size + 1, 1, none⟩ (.slice A2 (digs W Y.natAbs).length c2))).heap.size from ⟨by omega, by omega, by simp⟩)
  obtain ⟨y0, y1⟩ := b1.cells
  obtain ⟨y2, y3⟩ := b2.cells
  obtain ⟨f0, f1⟩ := b1.frozens
  obtain ⟨f2, f3⟩ := b2.frozens
  refine wpAnyW_one (i := 4) (by kernel_rfl) rfl (fun K hK => ?_)
  go_simp
  refine hK.out _ _ (fun h => absurd h (by simp)) ?_
  refine wpAnyW_one (i := 5) (by kernel_rfl) rfl (fun K hK => ?_)
  go_simp
  refine hK.out _ _ (fun h => absurd h (by simp)) ?_
  refine wpAnyW_done (by kernel_rfl) ?_ _
  generalize ((((z2.setCell ⟨w.heap.size, 0, none⟩ (.bool (decide (X < 0)))).setCell ⟨w.heap.size, 1, none⟩ (.slice A1 (digs W X.natAbs).length c1)).setCell ⟨w.heap.size + 1, 0, none⟩ (.bool (decide (Y < 0)))).setCell ⟨w.heap.size + 1, 1, none⟩ (.slice A2 (digs W Y.natAbs).length c2)) = w2 at *
  clear ho1 ho2 hb1 hb2 K0 K1 K2 b1 b2 b3 HX HN1 HN2 HS1 HB0 hz1 hz2 hz3 hs0 y0 y1 y2 y3 f0 f1 f2 f3
  obtain ⟨LX, hLX⟩ : ∃ LX, digs W X.natAbs = LX := ⟨_, rfl⟩
  obtain ⟨LY, hLY⟩ : ∃ LY, digs W Y.natAbs = LY := ⟨_, rfl⟩
  rw [hLX] at HO1 HS3 HL
  rw [hLY] at HO2 HS2 HL
  rw [hLX, hLY]
  have HVX := Lib.hid (show nv W LX = X.natAbs by rw [← hLX, nv_digs (by decide)])
  have HVY := Lib.hid (show nv W LY = Y.natAbs by rw [← hLY, nv_digs (by decide)])
  obtain ⟨p, hp⟩ : ∃ p, LX.length = p := ⟨_, rfl⟩
  obtain ⟨q, hq⟩ : ∃ q, LY.length = q := ⟨_, rfl⟩
  rw [hp] at HO1 HS3 HL
  rw [hq] at HO2 HS2 HL
  rw [hp, hq]
  have HP := Lib.hid (And.intro hp hq)
  have HB2 := Lib.hid HS2.out.1
  obtain ⟨x0, x1⟩ := HS3.out.cells
  obtain ⟨x2, x3⟩ := HB2.out.cells
  have hp9 := HL.out.1
  have hq9 := HL.out.2
  clear hLX hLY hp hq HS2
  generalize hsx : decide (X < 0) = sx at *
  generalize hsy : decide (Y < 0) = sy at *
  have HSX := Lib.hid (And.intro hsx hsy)
  clear hsx hsy
  obtain ⟨N, hN⟩ : ∃ N : Nat, max p q + 1 = N := ⟨_, rfl⟩
  have hNI : max (p : Int) (q : Int) + 1 = (N : Int) := by omega
  have hmk := fun w => makeU N (by omega) w
  rw [← hNI] at hmk
  have hpN : p < N := by omega
  have hqN : q < N := by omega
  have hN9 : N ≤ 33554433 := by omega
  have HNI := Lib.hid hNI
  clear hN hNI
  have g0 : w.heap.size < w2.heap.size := by have := HZ.out; omega
  have g1 : w.heap.size + 1 < w2.heap.size := by have := HZ.out; omega
  have g2 : w.heap.size + 1 + 1 < w2.heap.size := by have := HZ.out; omega
  have HSt := Lib.hid (PBlk.start (w := w2) (w1 := w2) (N := N) (by unfold maxLen; omega) (Below.refl _ _))
  by_cases hxy : sx = sy
  · subst hxy
    go_wp2_with fail
    go_loopw [7, 34] (fun cv i wr => ∃ k : Nat, k ≤ N ∧ i = .int .i64 k ∧ PAdd w2 w2.heap.size LX LY N k cv wr) (fun _ i _ => N - (intOf i).toNat)
    case atStart => exact ⟨0, Nat.zero_le _, rfl, [], 0, rfl, by omega, by simp [nv, nvp_zero], HSt.out⟩
    case round =>
      obtain ⟨k, hk, rfl, o, cc, rfl, hcc, hv, hblk⟩ := hrel
      have HR := Lib.hid (And.intro hv hblk)
      have z1 := (hblk.bel.cell (p := ⟨w.heap.size, 1, none⟩) g0).trans x1
      have z3 := (hblk.bel.cell (p := ⟨w.heap.size + 1, 1, none⟩) g1).trans x3
      have z0 := (hblk.bel.cell (p := ⟨w.heap.size, 0, none⟩) g0).trans x0
      by_cases hkN : k < N
      · obtain ⟨⟨u, hcu⟩, hfz⟩ := hblk.facts hkN
        obtain ⟨x, hx⟩ : ∃ x, LX.getD k 0 = x := ⟨_, rfl⟩
        obtain ⟨y, hy⟩ : ∃ y, LY.getD k 0 = y := ⟨_, rfl⟩
        have hxb : x < 4294967296 := by rw [← hx]; exact HO1.out.dig.getD (by decide) k
        have hyb : y < 4294967296 := by rw [← hy]; exact HO2.out.dig.getD (by decide) k
        have HL1 := Lib.hid (fun m => limb_any (((HO1.out.sl (B := w2.heap.size) (fun b hb => by have := hb.2; have := HZ.out; omega)).below hblk.bel (Nat.le_refl _)).below (belowN (Below.refl w2.heap.size wr) m) (Nat.le_refl _)) k (by omega))
        have HL2 := Lib.hid (fun m => limb_any (((HO2.out.sl (B := w2.heap.size) (fun b hb => by have := hb.2; have := HZ.out; omega)).below hblk.bel (Nat.le_refl _)).below (belowN (Below.refl w2.heap.size wr) m) (Nat.le_refl _)) k (by omega))
        rw [hx] at HL1
        rw [hy] at HL2
        have HS := Lib.hid (fun m => PAdd.step hcc hv (hblk.drewN m) hkN hx hy hxb hyb)
        have hki : (k : Int) < (N : Int) := by omega
        have hk0 : (0 : Int) ≤ (k : Int) := by omega
        clear hv hblk hx hy HR hmk
        go_wp2_with fail
        go_quiet (first | (go_at_call 85; first | (with_reducible exact quiet_left (HL1.out _)) | (with_reducible exact quiet_left (HL2.out _))))
        go_wp2_with fail
        go_roundw
        case rel => exact ⟨k + 1, by omega, by go_num, HS.out _⟩
        case measure => simp [intOf]; omega
      · obtain rfl : k = N := by omega
        obtain ⟨o2, hb2, hv2⟩ := PAdd.end_ ⟨o, cc, rfl, hcc, hv, hblk⟩ (by have := HP.out.1; omega) (by have := HP.out.2; omega) HO1.out.dig HO2.out.dig
        have HVal := Lib.hid (show ival sx o2 = X + Y by
          have e1 := HSX.out.1
          have e2 := HSX.out.2
          rw [HVX.out, HVY.out] at hv2
          unfold ival
          rw [hv2]
          cases sx
          · have := of_decide_eq_false e1
            have := of_decide_eq_false e2
            simp
            omega
          · have := of_decide_eq_true e1
            have := of_decide_eq_true e2
            simp
            omega)
        have HRb := Lib.hid (IBox.keepB HS4.out hblk.bel g2)
        have HN3 := Lib.hid (norm_any sx (hb2.full.sl hb2.dig hb2.len) (by omega) (Nat.le_refl _))
        rw [HVal.out] at HN3
        have hki : ¬ (k : Int) < (k : Int) := by omega
        have hr3 := HRb.out
        have HBe := Lib.hid hblk.bel
        clear hv hblk HR hmk hv2 hb2 HVal
        generalize X + Y = Z at *
        go_wp2_with (go_at_call 84; (with_reducible refine HN3.out.mono ?_); rintro e w4 ⟨v, rfl, ⟨A3, c3, rfl, ho3⟩, hb4⟩; have HO3 := Lib.hid ho3; have HB4 := Lib.hid hb4; have HR4 := Lib.hid (HRb.out.below hb4); clear ho3 hb4 hr3; obtain ⟨r0, r1⟩ := HR4.out.cells; obtain ⟨f0, f1⟩ := HR4.out.frozens)
        have hz4 := HB4.out.size
        have hz5 := HBe.out.size
        have hw4 : Below w.heap.size w w4 := (HBw.out.trans (HBe.out.mono (by omega))).trans (HB4.out.mono (by omega))
        have hr := ResI.stored (w := w) (g := w.heap.size + 1 + 1) (u := .bool (decide (Z < 0))) (u' := .slice A3 (digs W Z.natAbs).length c3) ⟨A3, c3, rfl, HO3.out⟩ hw4 (by omega) (by omega)
        have hS := HR4.out.set2 (decide (Z < 0)) (.slice A3 (digs W Z.natAbs).length c3)
        generalize ((w4.setCell ⟨w.heap.size + 1 + 1, 0, none⟩ (.bool (decide (Z < 0)))).setCell ⟨w.heap.size + 1 + 1, 1, none⟩ (.slice A3 (digs W Z.natAbs).length c3)) = w6 at *
        obtain ⟨s0, s1⟩ := hS.1.cells
        exact bodyPost_ret (v := .agg #[.bool (decide (Z < 0)), .slice A3 (digs W Z.natAbs).length c3]) (by simp [results, Tryz.results51, go_sem, s0, s1]) rfl ⟨_, rfl, hr.1, hr.2⟩
  · have hb : (sx == sy) = false := beq_eq_false_iff_ne.2 hxy
    have HC := Lib.hid (fun w1 (h1 : Below w2.heap.size w2 w1) => Cmp_any false false ((HO1.out.sl (B := w2.heap.size) (fun b hb => by have := hb.2; have := HZ.out; omega)).below h1 (Nat.le_refl _)) ((HO2.out.sl (B := w2.heap.size) (fun b hb => by have := hb.2; have := HZ.out; omega)).below h1 (Nat.le_refl _)) h1.size h1.size)
    have e1 : ival false LX = (X.natAbs : Int) := by rw [← HVX.out]; rfl
    have e2 : ival false LY = (Y.natAbs : Int) := by rw [← HVY.out]; rfl
    rw [e1, e2] at HC
    clear e1 e2
    have hlt : X.natAbs < Y.natAbs ∨ Y.natAbs ≤ X.natAbs := by omega
    rcases hlt with hlt | hlt
    focus
      rw [cmpZ_lt (by omega)] at HC
      go_wp2_with (go_at_call 30; (with_reducible refine (HC.out _ HSt.out.bel).mono ?_); rintro e w4 ⟨rfl, hb4⟩; have h4 : Below w2.heap.size w2 w4 := HSt.out.bel.trans (hb4.mono (by simp)); have H4 := Lib.hid h4; have HBK4 := Lib.hid (hb4.block w2.heap.size (by simp)); have HZ4 := Lib.hid hb4.size; clear hb4 h4; obtain ⟨y0, y1⟩ := (IBox.keepB HS3.out H4.out g0).cells; obtain ⟨y2, y3⟩ := (IBox.keepB HB2.out H4.out g1).cells; obtain ⟨f0, f1⟩ := (IBox.keepB HS3.out H4.out g0).frozens; obtain ⟨f2, f3⟩ := (IBox.keepB HB2.out H4.out g1).frozens)
      have S1 := (IBox.keepB HS3.out H4.out g0).set2 sy (.slice A2 q c2)
      have S2 := ((IBox.keepB HB2.out H4.out g1).gro S1.2 (by omega)).set2 sx (.slice A1 p c1)
      have HBa := Lib.hid (S1.1.gro S2.2 (by omega))
      have HBb := Lib.hid S2.1
      have HBr := Lib.hid (((IBox.keepB HS4.out H4.out g2).gro S1.2 (by omega)).gro S2.2 (by omega))
      have HPk := Lib.hid (HSt.out.rebase (((S2.2.block w2.heap.size (by have := HZ4.out; simp at this; simp; omega) (fun e => by injection e with e; omega)).trans (S1.2.block w2.heap.size (by have := HZ4.out; simp at this; omega) (fun e => by injection e with e; omega))).trans HBK4.out))
      have HZ5 := Lib.hid (show ∀ b, (fun x => z0.heap.size ≤ x ∧ x < z2.heap.size) b → b < w2.heap.size from fun b hb => by have := hb.2; have := HZ.out; omega)
      have key : ∀ b, (fun x => z0.heap.size ≤ x ∧ x < z2.heap.size) b → ((((w4.setCell ⟨w.heap.size, 0, none⟩ (.bool sy)).setCell ⟨w.heap.size, 1, none⟩ (.slice A2 q c2)).setCell ⟨w.heap.size + 1, 0, none⟩ (.bool sx)).setCell ⟨w.heap.size + 1, 1, none⟩ (.slice A1 p c1)).heap[b]? = w2.heap[b]? := fun b hb => by
        have e1 := hb.1
        have e2 := HZ5.out b hb
        have e3 := HZ.out
        have e4 := HZ4.out
        simp at e4
        exact ((S2.2.block b (by simp; omega) (fun e => by injection e with e; omega)).trans (S1.2.block b (by omega) (fun e => by injection e with e; omega))).trans (H4.out.block b e2)
      have HOU := Lib.hid (HO2.out.keep (fun b hb => ⟨hb, key b hb⟩))
      have HOV := Lib.hid (HO1.out.keep (fun b hb => ⟨hb, key b hb⟩))
      have HBw5 := Lib.hid (show Below w.heap.size w _ ∧ _ from ⟨((HBw.out.trans (H4.out.mono (by omega))).grown S1.2 (by have := HZ4.out; simp at this; omega) (fun j e => by injection e with e; omega)).grown S2.2 (by have := HZ4.out; simp at this; simp; omega) (fun j e => by injection e with e; omega), show w2.heap.size + 1 ≤ ((((w4.setCell ⟨w.heap.size, 0, none⟩ (.bool sy)).setCell ⟨w.heap.size, 1, none⟩ (.slice A2 q c2)).setCell ⟨w.heap.size + 1, 0, none⟩ (.bool sx)).setCell ⟨w.heap.size + 1, 1, none⟩ (.slice A1 p c1)).heap.size from by have := HZ4.out; simp at this; simp; omega⟩)
      have HLe := Lib.hid (show nv W LX ≤ nv W LY ∧ LY.length < N ∧ LX.length < N by rw [HVX.out, HVY.out, HP.out.1, HP.out.2]; omega)
      have HVal := Lib.hid (show ∀ o, nv W o = nv W LY - nv W LX → ival sy o = X + Y from fun o ho => by
        have e1 := HSX.out.1
        have e2 := HSX.out.2
        rw [HVX.out, HVY.out] at ho
        unfold ival
        rw [ho]
        cases sx <;> cases sy <;> simp at hxy e1 e2 ⊢ <;> omega)
      clear S1 S2 key y0 y1 y2 y3 f0 f1 f2 f3 HC
      generalize ((((w4.setCell ⟨w.heap.size, 0, none⟩ (.bool sy)).setCell ⟨w.heap.size, 1, none⟩ (.slice A2 q c2)).setCell ⟨w.heap.size + 1, 0, none⟩ (.bool sx)).setCell ⟨w.heap.size + 1, 1, none⟩ (.slice A1 p c1)) = W5 at *
      clear HS3 HB2 HS4 HBw HO1 HO2 H4 HBK4 HZ4 HSt HSX HVX HVY HP x0 x1 x2 x3
      obtain ⟨LU, rfl⟩ : ∃ s, s = LY := ⟨_, rfl⟩
      obtain ⟨LV, rfl⟩ : ∃ s, s = LX := ⟨_, rfl⟩
      obtain ⟨SU, rfl⟩ : ∃ s, s = sy := ⟨_, rfl⟩
    rotate_left
    focus
      obtain ⟨d, hd⟩ : ∃ d, cmpZ (X.natAbs : Int) (Y.natAbs : Int) = d := ⟨_, rfl⟩
      have hd0 : 0 ≤ d := by rw [← hd]; unfold cmpZ; split <;> (try split) <;> omega
      have hd1 : d ≤ 1 := by rw [← hd]; unfold cmpZ; split <;> (try split) <;> omega
      rw [hd] at HC
      have hdn : decide (d < 0) = false := decide_eq_false (by omega)
      clear hd
      go_wp2_with (go_at_call 30; (with_reducible refine (HC.out _ HSt.out.bel).mono ?_); rintro e w4 ⟨rfl, hb4⟩; have h4 : Below w2.heap.size w2 w4 := HSt.out.bel.trans (hb4.mono (by simp)); have H4 := Lib.hid h4; have HBK4 := Lib.hid (hb4.block w2.heap.size (by simp)); have HZ4 := Lib.hid hb4.size; clear hb4 h4)
      have HBa := Lib.hid (IBox.keepB HS3.out H4.out g0)
      have HBb := Lib.hid (IBox.keepB HB2.out H4.out g1)
      have HBr := Lib.hid (IBox.keepB HS4.out H4.out g2)
      have HPk := Lib.hid (HSt.out.rebase HBK4.out)
      have HZ5 := Lib.hid (show ∀ b, (fun x => z0.heap.size ≤ x ∧ x < z2.heap.size) b → b < w2.heap.size from fun b hb => by have := hb.2; have := HZ.out; omega)
      have HOU := Lib.hid (HO1.out.keep (fun b hb => ⟨hb, H4.out.block b (HZ5.out b hb)⟩))
      have HOV := Lib.hid (HO2.out.keep (fun b hb => ⟨hb, H4.out.block b (HZ5.out b hb)⟩))
      have HBw5 := Lib.hid (show Below w.heap.size w w4 ∧ w2.heap.size + 1 ≤ w4.heap.size from ⟨HBw.out.trans (H4.out.mono (by omega)), by have := HZ4.out; simp at this; omega⟩)
      have HLe := Lib.hid (show nv W LY ≤ nv W LX ∧ LX.length < N ∧ LY.length < N by rw [HVX.out, HVY.out, HP.out.1, HP.out.2]; omega)
      have HVal := Lib.hid (show ∀ o, nv W o = nv W LX - nv W LY → ival sx o = X + Y from fun o ho => by
        have e1 := HSX.out.1
        have e2 := HSX.out.2
        rw [HVX.out, HVY.out] at ho
        unfold ival
        rw [ho]
        cases sx <;> cases sy <;> simp at hxy e1 e2 ⊢ <;> omega)
      clear HC
      obtain ⟨W5, rfl⟩ : ∃ W5, W5 = w4 := ⟨_, rfl⟩
      clear HS3 HB2 HS4 HBw HO1 HO2 H4 HBK4 HZ4 HSt HSX HVX HVY HP x0 x1 x2 x3
      obtain ⟨LU, rfl⟩ : ∃ s, s = LX := ⟨_, rfl⟩
      obtain ⟨LV, rfl⟩ : ∃ s, s = LY := ⟨_, rfl⟩
      obtain ⟨SU, rfl⟩ : ∃ s, s = sx := ⟨_, rfl⟩
    rotate_left
    all_goals
      have LUb := HOU.out.dig
      have LVb := HOV.out.dig
      obtain ⟨x0, x1⟩ := HBa.out.cells
      obtain ⟨x2, x3⟩ := HBb.out.cells
      go_wp2_with fail
      go_loopw [10, 73] (fun cv i wr => ∃ k : Nat, k ≤ N ∧ i = .int .i64 k ∧ PSub W5 w2.heap.size LU LV N k cv wr) (fun _ i _ => N - (intOf i).toNat)
      case atStart => exact ⟨0, Nat.zero_le _, rfl, [], 0, rfl, by omega, by simp [nv, nvp_zero], HPk.out⟩
      case round =>
        obtain ⟨k, hk, rfl, o, cc, rfl, hcc, hv, hblk⟩ := hrel
        have HR := Lib.hid (And.intro hv hblk)
        have z1 := (hblk.bel.cell (p := ⟨w.heap.size, 1, none⟩) g0).trans x1
        have z3 := (hblk.bel.cell (p := ⟨w.heap.size + 1, 1, none⟩) g1).trans x3
        have z0 := (hblk.bel.cell (p := ⟨w.heap.size, 0, none⟩) g0).trans x0
        by_cases hkN : k < N
        · obtain ⟨⟨u, hcu⟩, hfz⟩ := hblk.facts hkN
          obtain ⟨x, hx⟩ : ∃ x, LU.getD k 0 = x := ⟨_, rfl⟩
          obtain ⟨y, hy⟩ : ∃ y, LV.getD k 0 = y := ⟨_, rfl⟩
          have hxb : x < 4294967296 := by rw [← hx]; exact LUb.getD (by decide) k
          have hyb : y < 4294967296 := by rw [← hy]; exact LVb.getD (by decide) k
          have HL1 := Lib.hid (fun m => limb_any (((HOU.out.sl (B := w2.heap.size) HZ5.out).below hblk.bel (Nat.le_refl _)).below (belowN (Below.refl w2.heap.size wr) m) (Nat.le_refl _)) k (by omega))
          have HL2 := Lib.hid (fun m => limb_any (((HOV.out.sl (B := w2.heap.size) HZ5.out).below hblk.bel (Nat.le_refl _)).below (belowN (Below.refl w2.heap.size wr) m) (Nat.le_refl _)) k (by omega))
          rw [hx] at HL1
          rw [hy] at HL2
          have HS := Lib.hid (fun m => PSub.step hcc hv (hblk.drewN m) hkN hx hy hxb hyb)
          have hki : (k : Int) < (N : Int) := by omega
          have hk0 : (0 : Int) ≤ (k : Int) := by omega
          obtain ⟨S, hS0, hS1⟩ : ∃ S : Nat, S = (x + 18446744073709551616 - y) % 18446744073709551616 ∧ S < 18446744073709551616 := ⟨_, rfl, Nat.mod_lt _ (by decide)⟩
          obtain ⟨T, hT0, hT1⟩ : ∃ T : Nat, T = (S + 18446744073709551616 - cc) % 18446744073709551616 ∧ T < 18446744073709551616 := ⟨_, rfl, Nat.mod_lt _ (by decide)⟩
          have HT1 := Lib.hid (show (T : Int) % 4294967296 = (((x + 4294967296 - y - cc) % 4294967296 : Nat) : Int) by omega)
          have HT2 := Lib.hid (show (T : Int) / 9223372036854775808 = ((bw x y cc : Nat) : Int) by have := bw_spec x y cc; omega)
          have hTa : IntKind.u64.wrap ((x : Int) - (y : Int)) = (S : Int) := by simp [IntKind.wrap, IntKind.bits, IntKind.signed]; omega
          have hTb : IntKind.u64.wrap ((S : Int) - (cc : Int)) = (T : Int) := by simp [IntKind.wrap, IntKind.bits, IntKind.signed]; omega
          clear hS0 hT0
          clear hv hblk hx hy HR hmk
          go_wp2_with fail
          go_quiet (first | (go_at_call 85; first | (with_reducible exact quiet_left (HL1.out _)) | (with_reducible exact quiet_left (HL2.out _))))
          go_wp2_with fail
          go_roundw
          case rel => exact ⟨k + 1, by omega, by go_num, by rw [HT1.out, HT2.out]; exact HS.out _⟩
          case measure => simp [intOf]; omega
        · obtain rfl : k = N := by omega
          obtain ⟨o2, hb2, hv2⟩ := PSub.end_ ⟨o, cc, rfl, hcc, hv, hblk⟩ HLe.out.2.1 HLe.out.2.2 HLe.out.1
          have HVal2 := Lib.hid (HVal.out o2 hv2)
          have HRb := Lib.hid (IBox.keepB HBr.out hblk.bel g2)
          have HN3 := Lib.hid (norm_any SU (hb2.full.sl hb2.dig hb2.len) (by omega) (Nat.le_refl _))
          rw [HVal2.out] at HN3
          have hki : ¬ (k : Int) < (k : Int) := by omega
          have hr3 := HRb.out
          have HBe := Lib.hid hblk.bel
          clear hv hblk HR hmk hv2 hb2 HVal HVal2
          generalize X + Y = Z at *
          go_wp2_with (go_at_call 84; (with_reducible refine HN3.out.mono ?_); rintro e w4 ⟨v, rfl, ⟨A3, c3, rfl, ho3⟩, hb4⟩; have HO3 := Lib.hid ho3; have HB4 := Lib.hid hb4; have HR4 := Lib.hid (HRb.out.below hb4); clear ho3 hb4 hr3; obtain ⟨r0, r1⟩ := HR4.out.cells; obtain ⟨f0, f1⟩ := HR4.out.frozens)
          have hz4 := HB4.out.size
          have hz5 := HBe.out.size
          have hz6 := HBw5.out.2
          have hw4 : Below w.heap.size w w4 := (HBw5.out.1.trans (HBe.out.mono (by omega))).trans (HB4.out.mono (by omega))
          have hr := ResI.stored (w := w) (g := w.heap.size + 1 + 1) (u := .bool (decide (Z < 0))) (u' := .slice A3 (digs W Z.natAbs).length c3) ⟨A3, c3, rfl, HO3.out⟩ hw4 (by omega) (by omega)
          have hS := HR4.out.set2 (decide (Z < 0)) (.slice A3 (digs W Z.natAbs).length c3)
          generalize ((w4.setCell ⟨w.heap.size + 1 + 1, 0, none⟩ (.bool (decide (Z < 0)))).setCell ⟨w.heap.size + 1 + 1, 1, none⟩ (.slice A3 (digs W Z.natAbs).length c3)) = w6 at *
          obtain ⟨s0, s1⟩ := hS.1.cells
          exact bodyPost_ret (v := .agg #[.bool (decide (Z < 0)), .slice A3 (digs W Z.natAbs).length c3]) (by simp [results, Tryz.results51, go_sem, s0, s1]) rfl ⟨_, rfl, hr.1, hr.2⟩
end Go.Proofs.YtpikjceodmepiaaGreatDoor


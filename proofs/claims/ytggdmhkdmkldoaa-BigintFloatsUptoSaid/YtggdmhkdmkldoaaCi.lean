import Derived.Test.YtggdmhkdmkldoaaCh
namespace Go.Proofs.Ytggdmhkdmkldoaa
open Go.RowKit Hb

theorem aw_text : strN (tList false (decide ((1267650600228229401496703205376 : Int) < 0)) (1267650600228229401496703205376 : Int).natAbs 10) = ⟨#[49, 50, 54, 55, 54, 53, 48, 54, 48, 48, 50, 50, 56, 50, 50, 57, 52, 48, 49, 52, 57, 54, 55, 48, 51, 50, 48, 53, 51, 55, 54]⟩ ∧ tCode false 10 = 0 := by
  refine ⟨?_, by rw [tCode, if_neg (by simp), if_neg (by decide)]⟩
  have h : [6, 7, 3, 5, 0, 2, 3, 0, 7, 6, 9, 4, 1, 0, 4, 9, 2, 2, 8, 2, 2, 0, 0, 6, 0, 5, 6, 7, 6, 2, 1] = digs 10 1267650600228229401496703205376 := nrm_eq_digs (b := 10) (l := [6, 7, 3, 5, 0, 2, 3, 0, 7, 6, 9, 4, 1, 0, 4, 9, 2, 2, 8, 2, 2, 0, 0, 6, 0, 5, 6, 7, 6, 2, 1]) (by decide) (by unfold Dig; decide) (by unfold Nrm; decide)
  rw [tList, if_neg (by simp), if_neg (by decide), txtL, if_neg (by decide)]
  rw [show (10 : Int).toNat = 10 from rfl, show (1267650600228229401496703205376 : Int).natAbs = 1267650600228229401496703205376 from rfl, ← h]
  rfl
theorem aw_parse_call {b9 : Int} (w : World) (h9 : b9 = -255) : Calls Try.prog 27 #[.string ⟨#[45, 48, 48, 102, 102]⟩, .int .i64 16] w (PostR w b9 0) :=
  (Parse_any ⟨#[45, 48, 48, 102, 102]⟩ 16 w (by decide)).mono fun e w' h => by
    have h1 : PostC w (pVal [45, 48, 48, 102, 102] 16) (pCode [45, 48, 48, 102, 102] 16) e w' := h
    rw [aw_parse.1, aw_parse.2, ← h9] at h1
    exact h1.ok_ rfl
set_option maxRecDepth 100000 in
set_option maxHeartbeats 4000000 in
theorem awake_any (w : World) : Calls Try.prog 16 #[] w fun e w' => e = .returned (.bool true) ∧ Below w.heap.size w w' := by
  obtain ⟨x7, h7⟩ : ∃ x : Int, x = -7 := ⟨_, rfl⟩
  obtain ⟨x2, h2⟩ : ∃ x : Int, x = 2 := ⟨_, rfl⟩
  obtain ⟨q4, h4⟩ : ∃ x : Int, x = -4 := ⟨_, rfl⟩
  obtain ⟨r1, h1⟩ : ∃ x : Int, x = 1 := ⟨_, rfl⟩
  have HB := Lib.hid (Below.refl w.heap.size w)
  have HF7 := Lib.hid (fun w => from_lit (x := x7) (k := -7) h7 (by decide) (by decide) w)
  have HF2 := Lib.hid (fun w => from_lit (x := x2) (k := 2) h2 (by decide) (by decide) w)
  have HDM := Lib.hid (fun (w : World) A A' c c' h1' h2' => dm_own (w := w) (B := 0) (B' := 0) (A := A) (A' := A') (c := c) (c' := c') (x := x7) (y := x2) h1' h2' (by rw [h7]; exact tooLong_lt 3 (by decide) (by decide)) (by rw [h2]; exact tooLong_lt 3 (by decide) (by decide)) (z1 := q4) (z2 := r1) (co := 0) (by rw [h7, h2, h4]; exact aw_dv.1) (by rw [h7, h2, h1]; exact aw_dv.2.1) (by rw [h7, h2]; exact aw_dv.2.2))
  obtain ⟨p, hp⟩ : ∃ x : Int, x = 1267650600228229401496703205376 := ⟨_, rfl⟩
  obtain ⟨b9, hb9⟩ : ∃ x : Int, x = -255 := ⟨_, rfl⟩
  have HPw := Lib.hid (fun (w : World) A c h1' => Pow_own (w := w) (B := 0) (A := A) (c := c) (x := x2) (z := p) 100 h1' (by rw [h2]; exact tooLong_lt 3 (by decide) (by decide)) (by rw [h2, hp]; exact aw_pow.1) (by rw [h2]; exact aw_pow.2))
  have HTx := Lib.hid (fun (w : World) A c h1' => Text_own (w := w) (B := 0) (A := A) (c := c) (x := p) (s := ⟨#[49, 50, 54, 55, 54, 53, 48, 54, 48, 48, 50, 50, 56, 50, 50, 57, 52, 48, 49, 52, 57, 54, 55, 48, 51, 50, 48, 53, 51, 55, 54]⟩) (co := 0) 10 h1' (by rw [hp]; exact tooLong_lt 101 (by decide) (by decide +kernel)) (by rw [hp]; exact aw_text.1) (by exact aw_text.2))
  have HPa := Lib.hid (fun (w : World) => aw_parse_call w hb9)
  have HT4 := Lib.hid (fun (w : World) A c h1' => To_own (w := w) (B := 0) (A := A) (c := c) (x := q4) (k := -4) h1' h4 (by decide))
  have HT9 := Lib.hid (fun (w : World) A c h1' => To_own (w := w) (B := 0) (A := A) (c := c) (x := b9) (k := -255) h1' hb9 (by decide))
  have HCm := Lib.hid (fun (w : World) A A' c c' h1' h2' => Cmp_own (w := w) (B := 0) (B' := 0) (A := A) (A' := A') (c := c) (c' := c') (x := r1) (y := r1) (k := 0) h1' h2' (by simp [cmpZ]))
  have HF1 := Lib.hid (fun w => from_lit (x := r1) (k := 1) h1 (by decide) (by decide) w)
  have HSg := Lib.hid (fun (w : World) A c h1' => Sign_own (w := w) (B := 0) (A := A) (c := c) (x := x7) (k := -1) h1' (by rw [h7]; decide))
  have HBt := Lib.hid (fun (w : World) A c h1' => Bits_own (w := w) (B := 0) (A := A) (c := c) (x := p) (k := 101) h1' (by rw [hp]; exact tooLong_lt 101 (by decide) (by decide +kernel)) (by rw [hp]; exact aw_bits))
  have H7 := Lib.hid h7
  have H2 := Lib.hid h2
  have H4 := Lib.hid h4
  have H1 := Lib.hid h1
  clear h7 h2 h4 h1 hp hb9
  go_enter Try.func16, Try.ntmps16
  go_wp2_with fail
  refine (HF7.out _).mono ?_
  rintro ex w1 ⟨v, rfl, ⟨A7, c7, rfl, ho7⟩, hb1⟩
  have HO7 := Lib.hid ho7
  have HB1 := Lib.hid hb1
  have hz1 := hb1.size
  clear hb1 ho7
  go_upto_region 2 with fail
  have BX1 := Lib.hid (Bx.new w1 (.bool (decide (x7 < 0))) (.slice A7 (digs W x7.natAbs).length c7))
  have HB2 := Lib.hid (HB1.out.alloc hz1 (.cells #[.bool (decide (x7 < 0)), .slice A7 (digs W x7.natAbs).length c7] 24))
  have HO72 := Lib.hid (Own.alloc HO7.out (.cells #[.bool (decide (x7 < 0)), .slice A7 (digs W x7.natAbs).length c7] 24))
  generalize w1.alloc (.cells #[.bool (decide (x7 < 0)), .slice A7 (digs W x7.natAbs).length c7] 24) = w2 at *
  have hG : ∃ G, G = w1.heap.size := ⟨_, rfl⟩
  generalize w1.heap.size = G at *
  go_cut [2, 3, 4] (fun s2 s3 s4 wx => ∃ gq gr Aq cq Ar cr, s2 = .pointer (some ⟨gq, 0, none⟩) ∧ s3 = .pointer (some ⟨gr, 0, none⟩) ∧ s4 = .int .i64 0 ∧ (wx.cell? ⟨gq, 0, none⟩ = some (.bool (decide (q4 < 0))) ∧ wx.cell? ⟨gq, 1, none⟩ = some (.slice Aq (digs W q4.natAbs).length cq)) ∧ (wx.cell? ⟨gr, 0, none⟩ = some (.bool (decide (r1 < 0))) ∧ wx.cell? ⟨gr, 1, none⟩ = some (.slice Ar (digs W r1.natAbs).length cr)) ∧ Below w2.heap.size w2 wx ∧
     OwnU wx 0 Aq (digs W q4.natAbs).length cq (u32s (digs W q4.natAbs)) ∧ OwnU wx 0 Ar (digs W r1.natAbs).length cr (u32s (digs W r1.natAbs)))
  case first =>
    obtain ⟨a0, a1, _, _⟩ := BX1.out.facts
    have hlt := BX1.out.lt
    go_region_held3 (fun w' => w'.cell? ⟨G, 0, none⟩ = some (.bool (decide (x7 < 0))) ∧ w'.cell? ⟨G, 1, none⟩ = some (.slice A7 (digs W x7.natAbs).length c7))
      (first | (go_keep; done))
      (first
        | (go_at_call 38; (with_reducible refine (HF2.out _).mono ?_); rintro e w3 ⟨v, rfl, ⟨A2, c2, rfl, ho2⟩, hb3⟩
           first
             | (have K3 : Below w2.heap.size w2 w3 := (Below.refl _ _).drew.trans hb3)
             | (have K3 : Below w2.heap.size w2 w3 := ((Below.refl w2.heap.size w2).alloc (Nat.le_refl _) _).drew.trans (hb3.mono (by simp))
                have PA := Lib.hid ((Bx.new w2 (.bool false) (.slice none 0 0)).below (w' := w3) (Below.trans (Below.refl _ _).drew hb3) (by simp)))
             | (have K3 : Below w2.heap.size w2 w3 := (((Below.refl w2.heap.size w2).alloc (Nat.le_refl _) _).alloc (by simp) _).drew.trans (hb3.mono (by simp; omega))
                have PA := Lib.hid (((Bx.new w2 (.bool false) (.slice none 0 0)).alloc _).below (w' := w3) (Below.trans (Below.refl _ _).drew hb3) (by simp; omega))
                have PB := Lib.hid (show Bx w3 (w2.heap.size + 1) (.bool false) (.slice none 0 0) by have := ((Bx.new (w2.alloc (.cells #[.bool false, .slice none 0 0] 24)) (.bool false) (.slice none 0 0)).below (w' := w3) (Below.trans (Below.refl _ _).drew hb3) (by simp)); simpa only [World.size_alloc] using this))
           have hz3 := K3.size
           obtain ⟨a30, a31, _, _⟩ := (BX1.out.below K3 hlt).facts
           have hO7 := Own.mono (Own.below HO72.out K3 (Nat.le_refl _)) (Nat.zero_le _)
           have ho2 := Own.mono ho2 (Nat.zero_le _))
        | (go_at_call 21; (with_reducible refine (HDM.out _ _ _ _ _ ?_ ?_).mono ?_)
           · first | exact hO7 | exact Own.alloc hO7 _ | exact Own.alloc (Own.alloc hO7 _) _
           · first | exact ho2 | exact Own.alloc ho2 _ | exact Own.alloc (Own.alloc ho2 _) _
           rintro e w5 ⟨v1, v2, rfl, hr5, _, hb5⟩
           obtain ⟨⟨Aq, cq, rfl, hoq⟩, ⟨Ar, cr, rfl, hor⟩, _⟩ := hr5 rfl
           first
             | (have K35 : Below w3.heap.size w3 w5 := hb5
                obtain ⟨QB, hQB, hoqQ, horQ⟩ : ∃ QB, w3.heap.size ≤ QB ∧ OwnU w5 QB Aq (digs W q4.natAbs).length cq (u32s (digs W q4.natAbs)) ∧ OwnU w5 QB Ar (digs W r1.natAbs).length cr (u32s (digs W r1.natAbs)) := ⟨_, (by first | omega | (simp; done) | (simp; omega)), hoq, hor⟩)
             | (have K35 : Below w3.heap.size w3 w5 := ((Below.refl w3.heap.size w3).alloc (Nat.le_refl _) _).trans (hb5.mono (by simp))
                have PC := Lib.hid ((Bx.new w3 (.bool false) (.slice none 0 0)).below (w' := w5) hb5 (by simp))
                obtain ⟨QB, hQB, hoqQ, horQ⟩ : ∃ QB, w3.heap.size + 1 ≤ QB ∧ OwnU w5 QB Aq (digs W q4.natAbs).length cq (u32s (digs W q4.natAbs)) ∧ OwnU w5 QB Ar (digs W r1.natAbs).length cr (u32s (digs W r1.natAbs)) := ⟨_, (by first | omega | (simp; done) | (simp; omega)), hoq, hor⟩)
             | (have K35 : Below w3.heap.size w3 w5 := (((Below.refl w3.heap.size w3).alloc (Nat.le_refl _) _).alloc (by simp) _).trans (hb5.mono (by simp; omega))
                have PC := Lib.hid (((Bx.new w3 (.bool false) (.slice none 0 0)).alloc _).below (w' := w5) hb5 (by simp; omega))
                have PD := Lib.hid (show Bx w5 (w3.heap.size + 1) (.bool false) (.slice none 0 0) by have := ((Bx.new (w3.alloc (.cells #[.bool false, .slice none 0 0] 24)) (.bool false) (.slice none 0 0)).below (w' := w5) hb5 (by simp)); simpa only [World.size_alloc] using this)
                obtain ⟨QB, hQB, hoqQ, horQ⟩ : ∃ QB, w3.heap.size + 1 + 1 ≤ QB ∧ OwnU w5 QB Aq (digs W q4.natAbs).length cq (u32s (digs W q4.natAbs)) ∧ OwnU w5 QB Ar (digs W r1.natAbs).length cr (u32s (digs W r1.natAbs)) := ⟨_, (by first | omega | (simp; done) | (simp; omega)), hoq, hor⟩)
           have K5 : Below w2.heap.size w2 w5 := K3.trans (K35.mono hz3)
           have hz35 := K35.size
           have hz5 := K5.size
           obtain ⟨a50, a51, _, _⟩ := (BX1.out.below K5 hlt).facts
           try (obtain ⟨pa0, pa1, pa2, pa3⟩ := (PA.out.below K35 PA.out.lt).facts)
           try (obtain ⟨pb0, pb1, pb2, pb3⟩ := (PB.out.below K35 PB.out.lt).facts)
           try (obtain ⟨pc0, pc1, pc2, pc3⟩ := PC.out.facts)
           try (obtain ⟨pd0, pd1, pd2, pd3⟩ := PD.out.facts)
           have g1 : ¬ (G = w3.heap.size) := by omega
           have g2 : ¬ (w3.heap.size = G) := by omega
           have g3 : ¬ (G = w2.heap.size) := by omega
           have g4 : ¬ (w2.heap.size = G) := by omega
           have g5 : ¬ (G = w2.heap.size + 1) := by omega
           have g6 : ¬ (w2.heap.size + 1 = G) := by omega
           have g7 : ¬ (G = w3.heap.size + 1) := by omega
           have g8 : ¬ (w3.heap.size + 1 = G) := by omega
           have g9 : G < w5.heap.size := by omega
           try (have pbl3 := PB.out.lt)
           try (have pal3 := PA.out.lt)
           try (have pal := (PA.out.below K35 PA.out.lt).lt)
           try (have pbl := (PB.out.below K35 PB.out.lt).lt)
           try (have pcl := PC.out.lt)
           try (have pdl := PD.out.lt)
           try (have pacn : ¬ (w2.heap.size = w3.heap.size) := by have := PA.out.lt; omega)
           try (have pacm : ¬ (w3.heap.size = w2.heap.size) := by have := PA.out.lt; omega)))
    all_goals
      go_wp2_with fail
      go_meet
      refine ⟨_, _, Aq, cq, Ar, cr, rfl, rfl, rfl, ⟨?_, ?_⟩, ⟨?_, ?_⟩, ?_, ?_, ?_⟩
      · go_simp
      · go_simp
      · go_simp
      · go_simp
      · repeat (first | (with_reducible exact K5) | (with_reducible refine Below.drew ?_) | (with_reducible refine Below.alloc ?_ (by first | omega | (simp; done) | (simp; omega)) _) | (with_reducible refine Below.setCell ?_ (by first | omega | (simp; done) | (simp; omega)) _))
      · refine Own.mono (B := QB) ?_ (Nat.zero_le _)
        repeat (first | (with_reducible exact hoqQ) | (with_reducible refine Own.drew ?_) | (with_reducible refine Own.alloc ?_ _) | (with_reducible refine Own.farB ?_ (by first | omega | (simp; done) | (simp; omega)) _))
      · refine Own.mono (B := QB) ?_ (Nat.zero_le _)
        repeat (first | (with_reducible exact horQ) | (with_reducible refine Own.drew ?_) | (with_reducible refine Own.alloc ?_ _) | (with_reducible refine Own.farB ?_ (by first | omega | (simp; done) | (simp; omega)) _))
  case rest =>
    obtain ⟨gq, gr, Aq, cq, Ar, cr, rfl, rfl, rfl, ⟨q0, q1⟩, ⟨r0, r11⟩, hbc, hoq, hor⟩ := hcut
    have hqz := World.block_lt_of_cell? _ _ q0
    have hrz := World.block_lt_of_cell? _ _ r0
    simp only at hqz hrz
    have HQ := Lib.hid (And.intro q0 q1)
    have HR := Lib.hid (And.intro r0 r11)
    have HOQ := Lib.hid hoq
    have HOR := Lib.hid hor
    have HBC := Lib.hid hbc
    have hzc := hbc.size
    have hGl := BX1.out.lt
    clear q0 q1 r0 r11 hoq hor hbc
    go_wp2_with fail
    refine (HF2.out _).mono ?_
    rintro ex w6 ⟨v, rfl, ⟨A6, c6, rfl, ho6⟩, hb6⟩
    have HO6 := Lib.hid (Own.mono ho6 (Nat.zero_le _))
    have HB6 := Lib.hid hb6
    have hz6 := hb6.size
    clear ho6 hb6
    go_wp2_with fail
    refine (HPw.out _ _ _ HO6.out).mono ?_
    rintro ex w7 ⟨v, rfl, ⟨A7', c7', rfl, ho7'⟩, hb7⟩
    have HO7' := Lib.hid (Own.mono ho7' (Nat.zero_le _))
    have HB7 := Lib.hid (HB6.out.trans (hb7.mono hz6))
    have hz7 := HB7.out.size
    clear ho7' hb7
    go_wp2_with fail
    refine (HTx.out _ _ _ (Own.alloc HO7'.out _)).mono ?_
    rintro ex w8 ⟨rfl, hb8⟩
    have HPX := Lib.hid ((Bx.new w7 (.bool (decide (p < 0))) (.slice A7' (digs W p.natAbs).length c7')).below hb8 (by simp))
    have K78 := (Below.refl w7.heap.size w7).alloc (Nat.le_refl _) _ |>.trans (hb8.mono (by simp))
    have HB8 := Lib.hid (HB7.out.trans (K78.mono hz7))
    have HO8 := Lib.hid (Own.below HO7'.out K78 (Nat.le_refl _))
    have hz8 := HB8.out.size
    have hgp := HPX.out.lt
    have hzg : wc.heap.size ≤ w7.heap.size := hz7
    generalize w7.heap.size = gp at *
    clear hb8 K78
    go_wp2_with fail
    refine (HPa.out _).mono ?_
    rintro ex w9 ⟨v, rfl, ⟨A9, c9, rfl, ho9⟩, hb9⟩
    have HB9 := Lib.hid (HB8.out.trans (hb9.mono hz8))
    have HO9 := Lib.hid (Own.mono ho9 (Nat.zero_le _))
    have H89 := Lib.hid hb9
    have hz9 := HB9.out.size
    have hz89 := hb9.size
    have q0 := (HB9.out.cell (p := ⟨gq, 0, none⟩) hqz).trans HQ.out.1
    have q1 := (HB9.out.cell (p := ⟨gq, 1, none⟩) hqz).trans HQ.out.2
    have hq9 : gq < w9.heap.size := by omega
    clear hb9 ho9
    go_wp2_with fail
    refine (HT4.out _ _ _ (Own.alloc (Own.below HOQ.out HB9.out (Nat.le_refl _)) _)).mono ?_
    rintro ex w10 ⟨rfl, hb10⟩
    have HBX := Lib.hid ((Bx.new w9 (.bool (decide (b9 < 0))) (.slice A9 (digs W b9.natAbs).length c9)).below hb10 (by simp))
    have K9 := (Below.refl w9.heap.size w9).alloc (Nat.le_refl _) _ |>.trans (hb10.mono (by simp))
    have HB10 := Lib.hid (HB9.out.trans (K9.mono hz9))
    have HO10 := Lib.hid (Own.below HO9.out K9 (Nat.le_refl _))
    have H810 := Lib.hid (H89.out.trans (K9.mono hz89))
    have hz10 := HB10.out.size
    have hb9l := HBX.out.lt
    obtain ⟨b0, b1, _, _⟩ := HBX.out.facts
    generalize w9.heap.size = gb at *
    clear hb10 K9 q0 q1 hq9
    go_wp2_with fail
    refine (HT9.out _ _ _ HO10.out).mono ?_
    rintro ex w11 ⟨rfl, hb11⟩
    have HB11 := Lib.hid (HB10.out.trans (hb11.mono hz10))
    have H811 := Lib.hid (H810.out.trans (hb11.mono H810.out.size))
    have hz11 := HB11.out.size
    have hz811 := H811.out.size
    clear hb11 b0 b1
    go_wp2_with fail
    have HSS := Lib.hid (fun w' (hb : Below w11.heap.size w11 w') => And.intro (And.intro ((hb.cell (p := ⟨gr, 0, none⟩) (Nat.lt_of_lt_of_le hrz hz11)).trans ((HB11.out.cell (p := ⟨gr, 0, none⟩) hrz).trans HR.out.1)) ((hb.cell (p := ⟨gr, 1, none⟩) (Nat.lt_of_lt_of_le hrz hz11)).trans ((HB11.out.cell (p := ⟨gr, 1, none⟩) hrz).trans HR.out.2)))
      (And.intro (And.intro (((BX1.out.below HBC.out hGl).below HB11.out (Nat.lt_of_lt_of_le hGl hzc)).below hb (Nat.lt_of_lt_of_le (Nat.lt_of_lt_of_le hGl hzc) hz11)).facts.1 (((BX1.out.below HBC.out hGl).below HB11.out (Nat.lt_of_lt_of_le hGl hzc)).below hb (Nat.lt_of_lt_of_le (Nat.lt_of_lt_of_le hGl hzc) hz11)).facts.2.1)
        (And.intro ((HPX.out.below H811.out hgp).below hb (Nat.lt_of_lt_of_le hgp hz811)).facts.1 ((HPX.out.below H811.out hgp).below hb (Nat.lt_of_lt_of_le hgp hz811)).facts.2.1)))
    have S0 := HSS.out _ (Below.refl _ _)
    have HOA := Lib.hid (fun w' (hb : Below w11.heap.size w11 w') => And.intro (Own.below (Own.below HOR.out HB11.out (Nat.le_refl _)) hb (Nat.le_refl _)) (And.intro (Own.mono (Own.below (Own.below (Own.below HO72.out HBC.out (Nat.le_refl _)) HB11.out (Nat.le_refl _)) hb (Nat.le_refl _)) (Nat.zero_le _)) (Own.below (Own.below HO8.out H811.out (Nat.le_refl _)) hb (Nat.le_refl _))))
    go_region_held3 (fun w' => (w'.cell? ⟨gr, 0, none⟩ = some (.bool (decide (r1 < 0))) ∧ w'.cell? ⟨gr, 1, none⟩ = some (.slice Ar (digs W r1.natAbs).length cr)) ∧ (w'.cell? ⟨G, 0, none⟩ = some (.bool (decide (x7 < 0))) ∧ w'.cell? ⟨G, 1, none⟩ = some (.slice A7 (digs W x7.natAbs).length c7)) ∧ (w'.cell? ⟨gp, 0, none⟩ = some (.bool (decide (p < 0))) ∧ w'.cell? ⟨gp, 1, none⟩ = some (.slice A7' (digs W p.natAbs).length c7')))
      (first
        | (go_keep; done)
        | exact HSS.out _ k4
        | exact HSS.out _ k3
        | exact HSS.out _ k2
        | exact HSS.out _ k1)
      (first
        | (go_at_call 38; (with_reducible refine (HF1.out _).mono ?_); rintro e y1 ⟨v, rfl, ⟨Ao, co, rfl, hoo⟩, hb1⟩; have k1 := (Below.refl w11.heap.size w11).drew.trans hb1; have kz1 := k1.size; have hoo := Own.mono hoo (Nat.zero_le _))
        | (go_at_call 32; (with_reducible refine (HCm.out _ _ _ _ _ (HOA.out _ k1).1 hoo).mono ?_); rintro e y2 ⟨rfl, hb2⟩; have k2 := k1.trans (hb2.mono kz1); have kz2 := k2.size)
        | (go_at_call 42; (with_reducible refine (HSg.out _ _ _ (HOA.out _ k2).2.1).mono ?_); rintro e y3 ⟨rfl, hb3⟩; have k3 := k2.trans (hb3.mono kz2); have kz3 := k3.size)
        | (go_at_call 45; (with_reducible refine (HBt.out _ _ _ (HOA.out _ k3).2.2).mono ?_); rintro e y4 ⟨rfl, hb4⟩; have k4 := k3.trans (hb4.mono kz3); have kz4 := k4.size))
    go_wp2
    go_ret
    exact ⟨rfl, HB2.out.trans ((HBC.out.trans ((HB11.out.trans (k4.mono hz11)).mono hzc)).mono HB2.out.size)⟩
end Go.Proofs.Ytggdmhkdmkldoaa

import Derived.Test.YtggdmhkdmkldoaaTc
namespace Go.Proofs.Ytggdmhkdmkldoaa
open Go.RowKit Hb
set_option linter.unusedVariables false
set_option linter.unusedSimpArgs false

/-! ### Div -/
theorem tdiv_abs (x y : Int) : (x.tdiv y).natAbs ≤ x.natAbs := by
  rw [Int.natAbs_tdiv]; exact Nat.div_le_self _ _
theorem tmod_abs {x y : Int} (hy : y ≠ 0) : (x.tmod y).natAbs ≤ y.natAbs := Nat.le_of_lt (r_abs hy)
theorem digs_len_mono {a b k : Nat} (h : a ≤ b) (hb : (digs 2 b).length ≤ k) : (digs 2 a).length ≤ k := Nat.le_trans (blen_mono h) hb
theorem bval_m1 : bval true (digs 2 (-1 : Int).natAbs) = -1 := by have h := bval_digs (-1); rw [show decide ((-1 : Int) < 0) = true from rfl] at h; exact h
theorem keep2 {w2 : World} {a b g : Nat} {x0 x1 y0 y1 : Value} (h : (w2.cell? ⟨a, 0, none⟩ = some x0 ∧ w2.cell? ⟨a, 1, none⟩ = some x1) ∧ (w2.cell? ⟨b, 0, none⟩ = some y0 ∧ w2.cell? ⟨b, 1, none⟩ = some y1)) (ha : a ≠ g) (hb : b ≠ g) (u u' : Value) :
    (((w2.setCell ⟨g, 0, none⟩ u).setCell ⟨g, 1, none⟩ u').cell? ⟨a, 0, none⟩ = some x0 ∧ ((w2.setCell ⟨g, 0, none⟩ u).setCell ⟨g, 1, none⟩ u').cell? ⟨a, 1, none⟩ = some x1) ∧ (((w2.setCell ⟨g, 0, none⟩ u).setCell ⟨g, 1, none⟩ u').cell? ⟨b, 0, none⟩ = some y0 ∧ ((w2.setCell ⟨g, 0, none⟩ u).setCell ⟨g, 1, none⟩ u').cell? ⟨b, 1, none⟩ = some y1) :=
  ⟨⟨far2 h.1.1 ha, far2 h.1.2 ha⟩, ⟨far2 h.2.1 hb, far2 h.2.2 hb⟩⟩
theorem keep2d {w2 : World} {a b g : Nat} {x0 x1 y0 y1 u u' : Value} (h : (w2.cell? ⟨a, 0, none⟩ = some x0 ∧ w2.cell? ⟨a, 1, none⟩ = some x1) ∧ (w2.cell? ⟨b, 0, none⟩ = some y0 ∧ w2.cell? ⟨b, 1, none⟩ = some y1)) (ha : a ≠ g) (hb : b ≠ g) :
    (((w2.setCell ⟨g, 0, none⟩ u).setCell ⟨g, 1, none⟩ u').drew.cell? ⟨a, 0, none⟩ = some x0 ∧ ((w2.setCell ⟨g, 0, none⟩ u).setCell ⟨g, 1, none⟩ u').drew.cell? ⟨a, 1, none⟩ = some x1) ∧ (((w2.setCell ⟨g, 0, none⟩ u).setCell ⟨g, 1, none⟩ u').drew.cell? ⟨b, 0, none⟩ = some y0 ∧ ((w2.setCell ⟨g, 0, none⟩ u).setCell ⟨g, 1, none⟩ u').drew.cell? ⟨b, 1, none⟩ = some y1) :=
  by have h2 := keep2 h ha hb u u'; generalize ((w2.setCell ⟨g, 0, none⟩ u).setCell ⟨g, 1, none⟩ u') = X at h2 ⊢; exact h2
theorem keep4d {w2 : World} {a b g g' : Nat} {x0 x1 y0 y1 u u' v v' : Value} (h : (w2.cell? ⟨a, 0, none⟩ = some x0 ∧ w2.cell? ⟨a, 1, none⟩ = some x1) ∧ (w2.cell? ⟨b, 0, none⟩ = some y0 ∧ w2.cell? ⟨b, 1, none⟩ = some y1)) (ha : a ≠ g) (hb : b ≠ g) (ha' : a ≠ g') (hb' : b ≠ g') :
    (((((w2.setCell ⟨g, 0, none⟩ u).setCell ⟨g, 1, none⟩ u').setCell ⟨g', 0, none⟩ v).setCell ⟨g', 1, none⟩ v').drew.cell? ⟨a, 0, none⟩ = some x0 ∧ ((((w2.setCell ⟨g, 0, none⟩ u).setCell ⟨g, 1, none⟩ u').setCell ⟨g', 0, none⟩ v).setCell ⟨g', 1, none⟩ v').drew.cell? ⟨a, 1, none⟩ = some x1) ∧
    (((((w2.setCell ⟨g, 0, none⟩ u).setCell ⟨g, 1, none⟩ u').setCell ⟨g', 0, none⟩ v).setCell ⟨g', 1, none⟩ v').drew.cell? ⟨b, 0, none⟩ = some y0 ∧ ((((w2.setCell ⟨g, 0, none⟩ u).setCell ⟨g, 1, none⟩ u').setCell ⟨g', 0, none⟩ v).setCell ⟨g', 1, none⟩ v').drew.cell? ⟨b, 1, none⟩ = some y1) :=
  by have h2 := keep2 (keep2 h ha hb u u') ha' hb' v v'; generalize ((((w2.setCell ⟨g, 0, none⟩ u).setCell ⟨g, 1, none⟩ u').setCell ⟨g', 0, none⟩ v).setCell ⟨g', 1, none⟩ v') = X at h2 ⊢; exact h2
theorem keep3b {w2 : World} {a b d g : Nat} {x0 x1 y0 y1 z0 z1 u u' : Value} (h : (w2.cell? ⟨a, 0, none⟩ = some x0 ∧ w2.cell? ⟨a, 1, none⟩ = some x1) ∧ (w2.cell? ⟨b, 0, none⟩ = some y0 ∧ w2.cell? ⟨b, 1, none⟩ = some y1) ∧ (w2.cell? ⟨d, 0, none⟩ = some z0 ∧ w2.cell? ⟨d, 1, none⟩ = some z1)) (ha : a ≠ g) (hb : b ≠ g) (hd : d ≠ g) : (((w2.setCell ⟨g, 0, none⟩ u).setCell ⟨g, 1, none⟩ u').cell? ⟨a, 0, none⟩ = some x0 ∧ ((w2.setCell ⟨g, 0, none⟩ u).setCell ⟨g, 1, none⟩ u').cell? ⟨a, 1, none⟩ = some x1) ∧ (((w2.setCell ⟨g, 0, none⟩ u).setCell ⟨g, 1, none⟩ u').cell? ⟨b, 0, none⟩ = some y0 ∧ ((w2.setCell ⟨g, 0, none⟩ u).setCell ⟨g, 1, none⟩ u').cell? ⟨b, 1, none⟩ = some y1) ∧ (((w2.setCell ⟨g, 0, none⟩ u).setCell ⟨g, 1, none⟩ u').cell? ⟨d, 0, none⟩ = some z0 ∧ ((w2.setCell ⟨g, 0, none⟩ u).setCell ⟨g, 1, none⟩ u').cell? ⟨d, 1, none⟩ = some z1) :=
  ⟨⟨far2 h.1.1 ha, far2 h.1.2 ha⟩, ⟨far2 h.2.1.1 hb, far2 h.2.1.2 hb⟩, ⟨far2 h.2.2.1 hd, far2 h.2.2.2 hd⟩⟩
theorem keep6b {w2 : World} {a b d g g' : Nat} {x0 x1 y0 y1 z0 z1 u u' v v' : Value} (h : (w2.cell? ⟨a, 0, none⟩ = some x0 ∧ w2.cell? ⟨a, 1, none⟩ = some x1) ∧ (w2.cell? ⟨b, 0, none⟩ = some y0 ∧ w2.cell? ⟨b, 1, none⟩ = some y1) ∧ (w2.cell? ⟨d, 0, none⟩ = some z0 ∧ w2.cell? ⟨d, 1, none⟩ = some z1)) (ha : a ≠ g) (hb : b ≠ g) (hd : d ≠ g) (ha' : a ≠ g') (hb' : b ≠ g') (hd' : d ≠ g') : (((((w2.setCell ⟨g, 0, none⟩ u).setCell ⟨g, 1, none⟩ u').setCell ⟨g', 0, none⟩ v).setCell ⟨g', 1, none⟩ v').cell? ⟨a, 0, none⟩ = some x0 ∧ ((((w2.setCell ⟨g, 0, none⟩ u).setCell ⟨g, 1, none⟩ u').setCell ⟨g', 0, none⟩ v).setCell ⟨g', 1, none⟩ v').cell? ⟨a, 1, none⟩ = some x1) ∧ (((((w2.setCell ⟨g, 0, none⟩ u).setCell ⟨g, 1, none⟩ u').setCell ⟨g', 0, none⟩ v).setCell ⟨g', 1, none⟩ v').cell? ⟨b, 0, none⟩ = some y0 ∧ ((((w2.setCell ⟨g, 0, none⟩ u).setCell ⟨g, 1, none⟩ u').setCell ⟨g', 0, none⟩ v).setCell ⟨g', 1, none⟩ v').cell? ⟨b, 1, none⟩ = some y1) ∧ (((((w2.setCell ⟨g, 0, none⟩ u).setCell ⟨g, 1, none⟩ u').setCell ⟨g', 0, none⟩ v).setCell ⟨g', 1, none⟩ v').cell? ⟨d, 0, none⟩ = some z0 ∧ ((((w2.setCell ⟨g, 0, none⟩ u).setCell ⟨g, 1, none⟩ u').setCell ⟨g', 0, none⟩ v).setCell ⟨g', 1, none⟩ v').cell? ⟨d, 1, none⟩ = some z1) :=
  keep3b (keep3b h ha hb hd) ha' hb' hd'
set_option maxRecDepth 100000 in
set_option maxHeartbeats 4000000 in
theorem Div_any {x y : Int} {B B' : Nat} {A A' : Option Addr} {c c' : Nat} {w : World} (hs : SlI w B A (digs 2 x.natAbs).length c (digs 2 x.natAbs)) (hA : A = none → c = 0) (ht : SlI w B' A' (digs 2 y.natAbs).length c' (digs 2 y.natAbs)) (hB : B ≤ w.heap.size) (hB' : B' ≤ w.heap.size) (hn : (digs 2 x.natAbs).length ≤ 33554432) (hn' : (digs 2 y.natAbs).length ≤ 33554432) (hy : y ≠ 0) {d m : Int} (hd : dvD x y = d) (hm : dvM x y = m) :
    Calls Try.prog 23 #[.agg #[.bool (decide (x < 0)), .slice A (digs 2 x.natAbs).length c], .agg #[.bool (decide (y < 0)), .slice A' (digs 2 y.natAbs).length c']] w (QuoPost w d m) := by
  obtain ⟨q, hq⟩ : ∃ q, x.tdiv y = q := ⟨_, rfl⟩
  obtain ⟨r, hr⟩ : ∃ r, x.tmod y = r := ⟨_, rfl⟩
  have hcs := m_cases (x := x) hy
  rw [hd, hm, hq, hr] at hcs
  have HQn := Lib.hid (show (digs 2 q.natAbs).length ≤ 33554432 from digs_len_mono (by rw [← hq]; exact tdiv_abs x y) hn)
  have HRn := Lib.hid (show (digs 2 r.natAbs).length ≤ 33554432 from digs_len_mono (by rw [← hr]; exact tmod_abs hy) hn')
  have HYn := Lib.hid hn'
  have HD := Lib.hid (fun w1 (hb : Below w.heap.size w w1) => Quo_any (hs.below (C := w.heap.size) hb hB) hA (ht.below (C := w.heap.size) hb hB') (Nat.le_trans hB hb.size) (Nat.le_trans hB' hb.size) hn hn' hy hq hr)
  have HTY := Lib.hid (fun w1 (hb : Below w.heap.size w w1) => (ht.below (C := w.heap.size) hb hB').mono (Nat.le_trans hB' hb.size))
  obtain ⟨e0, e1, e2, e3, e4⟩ := heap4 w (.cells #[.bool (decide (x < 0)), .slice A (digs 2 x.natAbs).length c] 28) (.cells #[.bool (decide (y < 0)), .slice A' (digs 2 y.natAbs).length c'] 28) (.cells #[.bool false, .slice none 0 0] 28) (.cells #[.bool false, .slice none 0 0] 28)
  have HW := Lib.hid (And.intro e0 (And.intro e1 (And.intro e2 e3)))
  have HB := Lib.hid ((((((Below.refl w.heap.size w).alloc (Nat.le_refl _) (.cells #[.bool (decide (x < 0)), .slice A (digs 2 x.natAbs).length c] 28)).alloc (by simp) (.cells #[.bool (decide (y < 0)), .slice A' (digs 2 y.natAbs).length c'] 28)).alloc (by simp; omega) (.cells #[.bool false, .slice none 0 0] 28))).alloc (by simp; omega) (.cells #[.bool false, .slice none 0 0] 28))
  have HHY := Lib.hid (And.intro hq hr)
  clear hs hA ht hB hB' hn hn' hy hq hr hd hm e0 e1 e2 e3
  go_enter Try.func23, Try.ntmps23
  go_upto_region 1 with fail
  generalize ((((w.alloc (.cells #[.bool (decide (x < 0)), .slice A (digs 2 x.natAbs).length c] 28)).alloc (.cells #[.bool (decide (y < 0)), .slice A' (digs 2 y.natAbs).length c'] 28)).alloc (.cells #[.bool false, .slice none 0 0] 28)).alloc (.cells #[.bool false, .slice none 0 0] 28)) = W0 at *
  obtain ⟨a0, a1, _, _⟩ := two_cells (C := W0.heap.size) (Below.refl _ _) HW.out.1 (by omega)
  obtain ⟨b0, b1, _, _⟩ := two_cells (C := W0.heap.size) (Below.refl _ _) HW.out.2.1 (by omega)
  go_wp2_with fail
  (refine (HD.out _ HB.out).mono ?_)
  rintro ex w2 ⟨A1, c1, A2, c2, rfl, ho1, ho2, hne, hb2⟩
  have hz2 := hb2.size
  have ez2 : (w2.alloc (.cells #[.bool (decide (q < 0)), .slice A1 (digs 2 q.natAbs).length c1] 28)).heap.size = w2.heap.size + 1 := by simp
  have HO1 := Lib.hid (Own.alloc (Own.alloc ho1 (.cells #[.bool (decide (q < 0)), .slice A1 (digs 2 q.natAbs).length c1] 28)) (.cells #[.bool (decide (r < 0)), .slice A2 (digs 2 r.natAbs).length c2] 28))
  have HO2 := Lib.hid (Own.alloc (Own.alloc ho2 (.cells #[.bool (decide (q < 0)), .slice A1 (digs 2 q.natAbs).length c1] 28)) (.cells #[.bool (decide (r < 0)), .slice A2 (digs 2 r.natAbs).length c2] 28))
  have HNE := Lib.hid hne
  have K2 := Lib.hid ((hb2.alloc hz2 (.cells #[.bool (decide (q < 0)), .slice A1 (digs 2 q.natAbs).length c1] 28)).alloc (by omega) (.cells #[.bool (decide (r < 0)), .slice A2 (digs 2 r.natAbs).length c2] 28))
  have HX6 := Lib.hid (heap_first2 w2 (.cells #[.bool (decide (q < 0)), .slice A1 (digs 2 q.natAbs).length c1] 28) (.cells #[.bool (decide (r < 0)), .slice A2 (digs 2 r.natAbs).length c2] 28))
  have HX7 := Lib.hid (heap_second w2 (.cells #[.bool (decide (q < 0)), .slice A1 (digs 2 q.natAbs).length c1] 28) (.cells #[.bool (decide (r < 0)), .slice A2 (digs 2 r.natAbs).length c2] 28))
  have ez3 : ((w2.alloc (.cells #[.bool (decide (q < 0)), .slice A1 (digs 2 q.natAbs).length c1] 28)).alloc (.cells #[.bool (decide (r < 0)), .slice A2 (digs 2 r.natAbs).length c2] 28)).heap.size = w2.heap.size + 2 := by simp
  clear ho1 ho2 hne hb2 a0 a1 b0 b1 HD ez2
  go_upto_region 2 with fail
  generalize ((w2.alloc (.cells #[.bool (decide (q < 0)), .slice A1 (digs 2 q.natAbs).length c1] 28)).alloc (.cells #[.bool (decide (r < 0)), .slice A2 (digs 2 r.natAbs).length c2] 28)) = w3 at *
  generalize w2.heap.size = g6 at *
  have HSS := Lib.hid (fun w' (hb : Below w3.heap.size w3 w') => And.intro (two_cells hb HX6.out (by omega)) (And.intro (two_cells hb HX7.out (by omega)) (And.intro (two_cells (C := W0.heap.size) (K2.out.trans (hb.mono (by omega))) HW.out.2.1 (by omega)) (And.intro (two_cells (C := W0.heap.size) (K2.out.trans (hb.mono (by omega))) HW.out.2.2.1 (by omega)) (two_cells (C := W0.heap.size) (K2.out.trans (hb.mono (by omega))) HW.out.2.2.2 (by omega))))))
  obtain ⟨⟨a0, a1, _, _⟩, ⟨b0, b1, _, _⟩, ⟨d0, d1, _, _⟩, ⟨r0, r1, r2, r3⟩, ⟨s0, s1, s2, s3⟩⟩ := HSS.out _ (Below.refl _ w3)
  have h2 : w.heap.size + 1 + 1 < W0.heap.size := by omega
  have h3 : w.heap.size + 1 + 1 + 1 < W0.heap.size := by omega
  have hlen0 : r = 0 ↔ (digs 2 r.natAbs).length = 0 := by
    constructor
    · rintro rfl; rw [show (0 : Int).natAbs = 0 from rfl, digs_zero]; rfl
    · intro h
      have h9 := nv_digs (b := 2) (by decide) r.natAbs
      rw [List.length_eq_zero_iff.1 h] at h9
      have : (0 : Nat) = r.natAbs := h9
      omega
  rcases hcs with ⟨_, rfl, rfl, hsg⟩ | ⟨_, hdq, hmr, hr0, hsg⟩
  · obtain ⟨nr, hnr⟩ : ∃ nr, (digs 2 m.natAbs).length = nr := ⟨_, rfl⟩
    have HNR := Lib.hid hnr
    rw [hnr] at HO2 b1 hlen0 HX7 HSS
    by_cases hr0 : nr = 0
    · subst hr0
      clear hsg hnr
      clear hlen0
      go_upto_region 4 with fail
      have KS := (show (w3.cell? ⟨g6, 0, none⟩ = some (.bool (decide (d < 0))) ∧ w3.cell? ⟨g6, 1, none⟩ = some (.slice A1 (digs 2 d.natAbs).length c1)) ∧ (w3.cell? ⟨g6 + 1, 0, none⟩ = some (.bool (decide (m < 0))) ∧ w3.cell? ⟨g6 + 1, 1, none⟩ = some (.slice A2 0 c2)) from ⟨⟨a0, a1⟩, ⟨b0, b1⟩⟩)
      go_region_held3 (fun w' => (w'.cell? ⟨g6, 0, none⟩ = some (.bool (decide (d < 0))) ∧ w'.cell? ⟨g6, 1, none⟩ = some (.slice A1 (digs 2 d.natAbs).length c1)) ∧ (w'.cell? ⟨g6 + 1, 0, none⟩ = some (.bool (decide (m < 0))) ∧ w'.cell? ⟨g6 + 1, 1, none⟩ = some (.slice A2 0 c2)))
        (first
          | (go_keep; done)
          | (with_reducible refine keep4d KS ?_ ?_ ?_ ?_ <;> omega)
          | (with_reducible refine keep2d KS ?_ ?_ <;> omega)
          | exact KS)
        (first
          | fail)
      all_goals
        go_wp2
        have HBf := Lib.hid (show Below w.heap.size w w3 from (HB.out.trans (K2.out.mono HB.out.size)))
        exact bodyPost_ret (v := .tuple #[.agg #[.bool (decide (d < 0)), .slice A1 (digs 2 d.natAbs).length c1], .agg #[.bool (decide (m < 0)), .slice A2 0 c2]]) (by simp [results, Try.results23, go_sem, r0, r1, s0, s1]) rfl
          ⟨A1, c1, A2, c2, by rw [HNR.out], Own.drew (Own.mono (Own.four (w2 := w3) HO1.out h2 h3 _ _ _ _) (by omega)), by rw [HNR.out]; exact Own.drew (Own.mono (Own.four (w2 := w3) HO2.out h2 h3 _ _ _ _) (by omega)), HNE.out,
            ((((HBf.out.setCell (by simp; omega) _).setCell (by simp; omega) _).setCell (by simp; omega) _).setCell (by simp; omega) _).drew⟩
    · have hr1 : (0 : Int) < (nr : Int) := by omega
      have hr2 : decide (0 < nr) = true := decide_eq_true (by omega)
      have hsm : (decide (m < 0) == decide (y < 0)) = true := by
        rcases hsg with h | h
        · exact absurd (hlen0.1 h) hr0
        · rw [beq_iff_eq]; exact decide_eq_decide.2 h
      clear hsg hnr
      clear hlen0
      go_upto_region 4 with fail
      have KS := (show (w3.cell? ⟨g6, 0, none⟩ = some (.bool (decide (d < 0))) ∧ w3.cell? ⟨g6, 1, none⟩ = some (.slice A1 (digs 2 d.natAbs).length c1)) ∧ (w3.cell? ⟨g6 + 1, 0, none⟩ = some (.bool (decide (m < 0))) ∧ w3.cell? ⟨g6 + 1, 1, none⟩ = some (.slice A2 nr c2)) from ⟨⟨a0, a1⟩, ⟨b0, b1⟩⟩)
      go_region_held3 (fun w' => (w'.cell? ⟨g6, 0, none⟩ = some (.bool (decide (d < 0))) ∧ w'.cell? ⟨g6, 1, none⟩ = some (.slice A1 (digs 2 d.natAbs).length c1)) ∧ (w'.cell? ⟨g6 + 1, 0, none⟩ = some (.bool (decide (m < 0))) ∧ w'.cell? ⟨g6 + 1, 1, none⟩ = some (.slice A2 nr c2)))
        (first
          | (go_keep; done)
          | (with_reducible refine keep4d KS ?_ ?_ ?_ ?_ <;> omega)
          | (with_reducible refine keep2d KS ?_ ?_ <;> omega)
          | exact KS)
        (first
          | fail)
      all_goals
        go_wp2
        have HBf := Lib.hid (show Below w.heap.size w w3 from (HB.out.trans (K2.out.mono HB.out.size)))
        exact bodyPost_ret (v := .tuple #[.agg #[.bool (decide (d < 0)), .slice A1 (digs 2 d.natAbs).length c1], .agg #[.bool (decide (m < 0)), .slice A2 nr c2]]) (by simp [results, Try.results23, go_sem, r0, r1, s0, s1]) rfl
          ⟨A1, c1, A2, c2, by rw [HNR.out], Own.drew (Own.mono (Own.four (w2 := w3) HO1.out h2 h3 _ _ _ _) (by omega)), by rw [HNR.out]; exact Own.drew (Own.mono (Own.four (w2 := w3) HO2.out h2 h3 _ _ _ _) (by omega)), HNE.out,
            ((((HBf.out.setCell (by simp; omega) _).setCell (by simp; omega) _).setCell (by simp; omega) _).setCell (by simp; omega) _).drew⟩
  · have hr1 : (0 : Nat) < (digs 2 r.natAbs).length := by
      rcases Nat.eq_zero_or_pos (digs 2 r.natAbs).length with h | h
      · exact absurd (hlen0.2 h) hr0
      · exact h
    have hr2 : (0 : Int) < ((digs 2 r.natAbs).length : Int) := by omega
    have hsm : (decide (r < 0) == decide (y < 0)) = false := by
      rw [beq_eq_false_iff_ne]
      exact fun h => hsg (decide_eq_decide.1 h)
    have KSS := Lib.hid (fun w' (hb : Below w3.heap.size w3 w') => show (w'.cell? ⟨g6, 0, none⟩ = some (.bool (decide (q < 0))) ∧ w'.cell? ⟨g6, 1, none⟩ = some (.slice A1 (digs 2 q.natAbs).length c1)) ∧ (w'.cell? ⟨g6 + 1, 0, none⟩ = some (.bool (decide (r < 0))) ∧ w'.cell? ⟨g6 + 1, 1, none⟩ = some (.slice A2 (digs 2 r.natAbs).length c2)) ∧ (w'.cell? ⟨w.heap.size + 1, 0, none⟩ = some (.bool (decide (y < 0))) ∧ w'.cell? ⟨w.heap.size + 1, 1, none⟩ = some (.slice A' (digs 2 y.natAbs).length c')) from
      ⟨⟨(HSS.out _ hb).1.1, (HSS.out _ hb).1.2.1⟩, ⟨(HSS.out _ hb).2.1.1, (HSS.out _ hb).2.1.2.1⟩, ⟨(HSS.out _ hb).2.2.1.1, (HSS.out _ hb).2.2.1.2.1⟩⟩)
    have HDQ := Lib.hid (show q + -1 = d by omega)
    have HMR := Lib.hid (show r + y = m by omega)
    have HBf := Lib.hid (HB.out.trans (K2.out.mono HB.out.size))
    clear hlen0 hsg hdq hmr hr0
    go_upto_region 3 with fail
    go_region_held3 (fun w' => (w'.cell? ⟨g6, 0, none⟩ = some (.bool (decide (q < 0))) ∧ w'.cell? ⟨g6, 1, none⟩ = some (.slice A1 (digs 2 q.natAbs).length c1)) ∧ (w'.cell? ⟨g6 + 1, 0, none⟩ = some (.bool (decide (r < 0))) ∧ w'.cell? ⟨g6 + 1, 1, none⟩ = some (.slice A2 (digs 2 r.natAbs).length c2)) ∧ (w'.cell? ⟨w.heap.size + 1, 0, none⟩ = some (.bool (decide (y < 0))) ∧ w'.cell? ⟨w.heap.size + 1, 1, none⟩ = some (.slice A' (digs 2 y.natAbs).length c')))
      (first
        | (go_keep; done)
        | (with_reducible refine keep6b (KSS.out _ k6) ?_ ?_ ?_ ?_ ?_ ?_ <;> omega)
        | (with_reducible refine keep3b (KSS.out _ k6) ?_ ?_ ?_ <;> omega)
        | exact KSS.out _ k6
        | exact KSS.out _ k5
        | exact KSS.out _ k4
        | exact KSS.out _ (Below.refl w3.heap.size w3).drew)
      (first
        | (go_at_call 39; (refine (Small_any (-1) (by decide) _).mono ?_); rintro e w4 ⟨v4, rfl, ⟨A4, c4, rfl, ho4⟩, hb4⟩; have k4 : Below w3.heap.size w3 w4 := (Below.refl w3.heap.size w3).drew.trans hb4; have kz4 := k4.size)
        | (go_at_call 51; (refine (Sum_w (bits_sl (HO2.out.below k5 (Nat.le_refl _))) (HTY.out _ (HBf.out.trans (k5.mono HBf.out.size))) HRn.out HYn.out HMR.out).mono ?_); rintro e w6 ⟨v6, rfl, ⟨A6, c6, rfl, ho6⟩, hb6⟩; have k6 : Below w3.heap.size w3 w6 := k5.trans (hb6.mono kz5); obtain ⟨_, _, _, ⟨r0, r1, r2, r3⟩, ⟨s0, s1, s2, s3⟩⟩ := HSS.out _ k6)
        | (go_at_call 51; (refine (rsum_any (sx := decide (q < 0)) (sy := true) (bits_sl (HO1.out.below k4 (Nat.le_refl _))) (bits_sl ho4) (Nat.le_trans HQn.out (by decide)) (Nat.le_trans (digs_length_le (b := 2) (k := 1) (by decide) (by decide)) (by decide)) (Nat.le_refl _) (Nat.le_refl _) (nrm_digs (by decide) _) (nrm_digs (by decide) _) (x := q) (y := -1) (bval_digs q) bval_m1 HDQ.out).mono ?_); rintro e w5 ⟨v5, rfl, ⟨A5, c5, rfl, ho5⟩, hb5⟩; have k5 : Below w3.heap.size w3 w5 := k4.trans (hb5.mono kz4); have kz5 := k5.size))
    have HO5 := Lib.hid (ho5.below hb6 (Nat.le_refl _))
    have HO6 := Lib.hid ho6
    have HNE5 := Lib.hid (show ∀ g, A6 = some ⟨g, 0, none⟩ → A5 ≠ some ⟨g, 0, none⟩ from fun g e1 e2 => by
      have h5 := (own_block ho5 e2).2
      have h6 := (own_block ho6 e1).1
      omega)
    have HB6 := Lib.hid (HBf.out.trans (k6.mono HBf.out.size))
    have z4 : w.heap.size + 1 + 1 + 1 < w4.heap.size := by omega
    have z5 : w.heap.size + 1 + 1 + 1 < w5.heap.size := by omega
    have y4 : w.heap.size + 1 + 1 < w4.heap.size := by omega
    have y5 : w.heap.size + 1 + 1 < w5.heap.size := by omega
    clear ho4 ho5 ho6 hb4 hb5 hb6 k4 k5 k6 a0 a1 b0 b1 d0 d1
    go_wp2
    exact bodyPost_ret (v := .tuple #[.agg #[.bool (decide (d < 0)), .slice A5 (digs 2 d.natAbs).length c5], .agg #[.bool (decide (m < 0)), .slice A6 (digs 2 m.natAbs).length c6]]) (by simp [results, Try.results23, go_sem, r0, r1, s0, s1]) rfl
      ⟨A5, c5, A6, c6, rfl, Own.mono (Own.four HO5.out y4 z4 _ _ _ _) (by omega), Own.mono (Own.four HO6.out y5 z5 _ _ _ _) (by omega), HNE5.out,
        (((HB6.out.setCell (by simp; omega) _).setCell (by simp; omega) _).setCell (by simp; omega) _).setCell (by simp; omega) _⟩
end Go.Proofs.Ytggdmhkdmkldoaa

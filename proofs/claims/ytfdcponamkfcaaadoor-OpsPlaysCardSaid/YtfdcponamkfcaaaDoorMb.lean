import Derived.Test.YtfdcponamkfcaaaDoorNz
import Derived.Test.YtfdcponamkfcaaaDoorMa
import Derived.Test.YtfdcponamkfcaaaDoorNr
namespace Go.Proofs.YtfdcponamkfcaaaDoor
open Go.RowKit Ho Go.Maps Go.Shelf Go.Sort Hb
set_option linter.unusedVariables false
set_option linter.unusedSimpArgs false
/-! ### the reference's Sorted -/
theorem flO_set3 {M : List OpV} {k : Nat} (hk : k < M.length) (y : OpV) {a b c : Value} (he : encO y = [a, b, c]) : (((flO M).set (k * 3) a).set (k * 3 + 1) b).set (k * 3 + 2) c = flO (M.set k y) := by
  induction M generalizing k with
  | nil => simp at hk
  | cons x M ih =>
    have e : flO (x :: M) = encO x ++ flO M := by simp [flO]
    cases k with
    | zero =>
      rw [List.set_cons_zero, show flO (y :: M) = encO y ++ flO M by simp [flO], e, he]
      rfl
    | succ k =>
      rw [List.set_cons_succ, show flO (x :: M.set k y) = encO x ++ flO (M.set k y) by simp [flO], e, ← ih (by simpa using hk)]
      have hl : (encO x).length = 3 := rfl
      rw [List.set_append_right _ _ (by omega), List.set_append_right _ _ (by omega), List.set_append_right _ _ (by omega), hl]
      rw [show (k + 1) * 3 - 3 = k * 3 by omega, show (k + 1) * 3 + 1 - 3 = k * 3 + 1 by omega, show (k + 1) * 3 + 2 - 3 = k * 3 + 2 by omega]
theorem owns_set1 {w : World} {B g n c j : Nat} {xs : List Value} (h : w.ownsRow B 23 3 (.slice (some ⟨g, 0, none⟩) n c) n xs) (u : Value) : (w.setCell ⟨g, j, none⟩ u).ownsRow B 23 3 (.slice (some ⟨g, 0, none⟩) n c) n (xs.set j u) := by
  rcases h.2 with ⟨h1, _⟩ | ⟨g', cap, cur, h1, h2, h3, h4, h5, h6, h7⟩
  · cases h1
  · injection h1 with a b cc
    injection a with a
    injection a with a
    subst a; subst cc
    refine ⟨by simpa using h.1, .inr ⟨g, c, cur.setIfInBounds j u, rfl, h2, ?_, h4, h5, by simpa using h6, ?_⟩⟩
    · simp [World.setCell, Array.getElem?_modify, h3]
    · rw [← h7, Array.toList_setIfInBounds, List.take_set]
theorem owns_store {w : World} {B g n c k : Nat} {M : List OpV} (h : w.ownsRow B 23 3 (.slice (some ⟨g, 0, none⟩) n c) n (flO M)) (hk : k < M.length) {y : OpV} {a b d : Value} (he : encO y = [a, b, d]) :
    (((w.setCell ⟨g, k * 3, none⟩ a).setCell ⟨g, k * 3 + 1, none⟩ b).setCell ⟨g, k * 3 + 2, none⟩ d).ownsRow B 23 3 (.slice (some ⟨g, 0, none⟩) n c) n (flO (M.set k y)) := by
  rw [← flO_set3 hk y he]
  exact owns_set1 (owns_set1 (owns_set1 h a) b) d
theorem owns_frozen {w : World} {B g n c : Nat} {xs : List Value} (h : w.ownsRow B 23 3 (.slice (some ⟨g, 0, none⟩) n c) n xs) (j : Nat) : w.frozen? ⟨g, j, none⟩ = false := by
  rcases h.2 with ⟨h1, _⟩ | ⟨g', cap, cur, h1, h2, h3, _⟩
  · cases h1
  · injection h1 with a b cc
    injection a with a
    injection a with a
    subst a
    simp [World.frozen?, h3]
theorem atO_get {M : List OpV} {i : Nat} (hi : i < M.length) : M[i]? = some (atO M i) := by
  unfold atO; rw [List.getElem?_eq_getElem hi]; rfl
theorem owns_dr {w w' : World} {B g n c : Nat} {xs : List Value} (h : w.ownsRow B 23 3 (.slice (some ⟨g, 0, none⟩) n c) n xs) (hd : Dr w w') : w'.ownsRow B 23 3 (.slice (some ⟨g, 0, none⟩) n c) n xs := by
  obtain ⟨k, rfl⟩ := hd
  exact h
theorem owns_ge {w : World} {B g n c : Nat} {xs : List Value} (h : w.ownsRow B 23 3 (.slice (some ⟨g, 0, none⟩) n c) n xs) : B ≤ g ∧ g < w.heap.size := by
  rcases h.2 with ⟨h1, _⟩ | ⟨g', cap, cur, h1, h2, h3, _⟩
  · cases h1
  · injection h1 with a b cc
    injection a with a
    injection a with a
    subst a
    exact ⟨h2, (Array.getElem?_eq_some_iff.1 h3).1⟩
set_option maxRecDepth 100000 in
set_option maxHeartbeats 8000000 in
theorem rsorted_any {w : World} {h : Nat} {L : List OpV} (hR : RTab w h L) (hn : 0 < L.length) (hL : L.length ≤ 4398046511101) (hu : Uq L) :
    Calls Tryd.prog 46 #[.pointer (some ⟨h, 0, none⟩)] w fun e w' => ∃ g c, e = .returned (.slice (some ⟨g, 0, none⟩) L.length c) ∧ w'.ownsRow w.heap.size 23 3 (.slice (some ⟨g, 0, none⟩) L.length c) L.length (flO (srt L)) ∧ Below w.heap.size w w' := by
  obtain ⟨sb, c, hbx, hcap, hsb, hnews⟩ := hR.news hn
  have hb1 : Below w.heap.size w (w.alloc (.cells #[] 23)) := (Below.refl _ _).alloc (Nat.le_refl _) _
  have hbx1 : Boxed (w.alloc (.cells #[] 23)) h _ _ := hbx.alloc _
  have hbc := hbx1.cell
  have HE := Lib.hid (owns_empty w w.heap.size (Nat.le_refl _))
  have HB1 := Lib.hid hb1
  have HNw := Lib.hid (show ∀ j u, (flO L)[j]? = some u → (w.alloc (.cells #[] 23)).cell? ((⟨sb, 0, none⟩ : Addr).add j) = some u from fun j u hj => by
    have h9 := hnews j u hj
    rw [add_zero'] at h9 ⊢
    exact (World.cell?_of_block (a := ⟨sb, j, none⟩) (hb1.block sb hsb)).trans h9)
  have HCl := Lib.hid (fun (t : Int) w1 => show Calls Tryd.prog 43 #[.int .i64 t] w1 (fun e w' => e = .returned (.int .i64 (cls t : Int)) ∧ w1 = w') from rclass_any t w1)
  have HU := Lib.hid hu
  clear hR hbx hbx1 hnews hb1 hu
  go_enter Tryd.func46, Tryd.ntmps46
  go_wp2_with (at_builtin; refine wpList_append_ops rfl _ _ rfl w.heap.size (some ⟨w.heap.size, 0, none⟩) 0 0 [] rfl HE.out ⟨sb, 0, none⟩ L.length c L rfl rfl HNw.out (by omega) (by simp) ?_; intro A3 c3 w3 ho3 hb3 hg3; have HO3 := Lib.hid ho3; have HB3 := Lib.hid (HB1.out.trans hb3); clear ho3 hb3 hg3)
  have ho := HO3.out
  rw [Nat.zero_add, List.nil_append] at ho
  obtain ⟨n, hnn⟩ : ∃ n, L.length = n := ⟨_, rfl⟩
  rw [hnn] at ho hn hL
  have hform : ∃ g, A3 = some ⟨g, 0, none⟩ := by
    rcases ho.2 with ⟨_, h2⟩ | ⟨g', cap, cur, h1, _⟩
    · omega
    · injection h1 with a _ _
      exact ⟨g', a⟩
  obtain ⟨g, rfl⟩ := hform
  have hcap3 := owns_cap ho
  have HO := Lib.hid ho
  have HNN := Lib.hid hnn
  (try rw [Nat.zero_add])
  rw [hnn]
  have hnI : (n : Int) ≤ 4398046511101 := by omega
  clear ho HO3 hbc hcap hsb
  go_loopw [4] (fun v4 wr => ∃ (i : Nat) (M : List OpV), v4 = .int .i64 (i : Int) ∧ 1 ≤ i ∧ i ≤ n ∧ Hid (wr.ownsRow w.heap.size 23 3 (.slice (some ⟨g, 0, none⟩) n c3) n (flO M) ∧ M.Perm L ∧ SoTo M i ∧ Below w.heap.size w wr))
    (fun v4 wr => ((n : Int) - intOf v4).toNat)
  case atStart => exact ⟨1, L, rfl, Nat.le_refl _, hn, Lib.hid ⟨HO.out, List.Perm.refl _, fun a b hab hb => by omega, HB3.out⟩⟩
  case round =>
    obtain ⟨i, M, rfl, hi1, hi, HP⟩ := hrel
    by_cases hlt : i < n
    · have hltI : (i : Int) < (n : Int) := by omega
      have hi0 : (0 : Int) ≤ (i : Int) := by omega
      have HLt := Lib.hid (And.intro hlt hi1)
      have HMl := Lib.hid (show M.length = n by rw [HP.out.2.1.length_eq, HNN.out])
      clear hlt hi hi1 hn hnn
      go_wp2_with fail
      go_loopw [5] (fun v5 wz => ∃ (k : Nat) (M' : List OpV), v5 = .int .i64 (k : Int) ∧ k ≤ i ∧ Hid (wz.ownsRow w.heap.size 23 3 (.slice (some ⟨g, 0, none⟩) n c3) n (flO M') ∧ M'.Perm L ∧ InsO M' i k ∧ Below w.heap.size w wz))
        (fun v5 wz => (intOf v5).toNat)
      case atStart => exact ⟨i, M, rfl, Nat.le_refl _, Lib.hid ⟨HP.out.1, HP.out.2.1, InsO.start HP.out.2.2.1 (by rw [HMl.out]; exact HLt.out.1), HP.out.2.2.2⟩⟩
      case round =>
        obtain ⟨k, M', rfl, hki, HQ⟩ := hrel
        have hk0 : (0 : Int) ≤ (k : Int) := by omega
        have hkI : (k : Int) < (n : Int) := by have := HLt.out.1; omega
        have stop : ∀ {W2 : World}, Dr wr W2 → (k = 0 ∨ ¬ cmpO (atO M' k) (atO M' (k - 1)) < 0) → Hid (W2.ownsRow w.heap.size 23 3 (.slice (some ⟨g, 0, none⟩) n c3) n (flO M') ∧ M'.Perm L ∧ SoTo M' (i + 1) ∧ Below w.heap.size w W2) := fun hd hc =>
          Lib.hid ⟨owns_dr HQ.out.1 hd, HQ.out.2.1, HQ.out.2.2.1.stop hc, HQ.out.2.2.2.trans (hd.below _)⟩
        have HStop := Lib.hid (fun W2 => @stop W2)
        clear stop
        by_cases h0 : k = 0
        · have d3 : decide (0 < (k : Int)) = false := decide_eq_false (by omega)
          have d4 : decide (0 < k) = false := decide_eq_false (by omega)
          have HS0 := Lib.hid h0
          clear h0
          go_upto_region 6 with fail
          go_quiet (fail)
          have HE2 := HStop.out _ ((Dr.refl wr).more nq) (.inl HS0.out)
          go_wp2
          go_roundw
          case rel => exact ⟨i + 1, M', rfl, by omega, HLt.out.1, HE2⟩
          case measure =>
            have := HLt.out.1
            show ((n : Int) - ((i : Int) + 1)).toNat < ((n : Int) - (i : Int)).toNat
            omega
        · obtain ⟨j, hj⟩ : ∃ j, k = j + 1 := ⟨k - 1, by omega⟩
          have hkj : (k : Int) - 1 = (j : Int) := by omega
          have hj0 : (0 : Int) ≤ (j : Int) := by omega
          have hjI : (j : Int) < (n : Int) := by omega
          have d3 : decide (0 < (k : Int)) = true := decide_eq_true (by omega)
          have d4 : decide (0 < k) = true := decide_eq_true (by omega)
          have hMl : M'.length = n := by rw [HQ.out.2.1.length_eq, HNN.out]
          have hkM : k < M'.length := by rw [hMl]; omega
          obtain ⟨x, hx⟩ : ∃ x, atO M' k = x := ⟨_, rfl⟩
          obtain ⟨y, hy⟩ : ∃ y, atO M' j = y := ⟨_, rfl⟩
          obtain ⟨x0, x1, x2⟩ := (row_of_owns HQ.out.1).1.of (atO_get hkM)
          obtain ⟨y0, y1, y2⟩ := (row_of_owns HQ.out.1).1.of (atO_get (show j < M'.length by omega))
          rw [hx] at x0 x1 x2
          rw [hy] at y0 y1 y2
          obtain ⟨xn, xt, xp, hxn, hxt, hxp, hX⟩ := opV_lit x
          obtain ⟨yn, yt, yp, hyn, hyt, hyp, hY⟩ := opV_lit y
          rw [hxn] at x0
          rw [hxt] at x1
          rw [hxp] at x2
          rw [hyn] at y0
          rw [hyt] at y1
          rw [hyp] at y2
          have hnx : xn.data.toList = x.n := by rw [← hxn]
          have hny : yn.data.toList = y.n := by rw [← hyn]
          obtain ⟨cx, hcx⟩ : ∃ c, cls xt = c := ⟨_, rfl⟩
          obtain ⟨cy, hcy⟩ : ∃ c, cls yt = c := ⟨_, rfl⟩
          have HX1 := Lib.hid (fun w1 => show Calls Tryd.prog 43 #[.int .i64 xt] w1 (fun e w' => e = .returned (.int .i64 (cx : Int)) ∧ w1 = w') from by rw [← hcx]; exact HCl.out xt w1)
          have HY1 := Lib.hid (fun w1 => show Calls Tryd.prog 43 #[.int .i64 yt] w1 (fun e w' => e = .returned (.int .i64 (cy : Int)) ∧ w1 = w') from by rw [← hcy]; exact HCl.out yt w1)
          have hcmp : cmpO x y = if x.n = y.n then (cx : Int) - (cy : Int) else Lib.compareBytes x.n y.n := by
            unfold cmpO; rw [hxt, hyt, hcx, hcy]
          have hls : Op.bytesLess xn.toList yn.toList = decide (Lib.compareBytes x.n y.n < 0) := by
            rw [less_cb, ByteArray.toList_eq, ByteArray.toList_eq, hnx, hny]
          have HJ := Lib.hid (And.intro hj (And.intro hx (And.intro hy (And.intro hX hY))))
          have HKM := Lib.hid hkM
          have HEN := Lib.hid (show encO x = [.string xn, .int .i64 xt, .int .i64 xp] ∧ encO y = [.string yn, .int .i64 yt, .int .i64 yp] by unfold encO; rw [hxn, hxt, hxp, hyn, hyt, hyp]; exact ⟨rfl, rfl⟩)
          clear hxn hxt hxp hX hyn hyt hyp hY hj hx hy hcx hcy hMl hkM h0 hki
          by_cases hc : cmpO x y < 0
          · have HC := Lib.hid hc
            rcases Classical.em (x.n = y.n) with hne | hne
            all_goals first
              | (have s5 : Op.bytesLess xn.toList yn.toList = false := by rw [hls, hne, cb_refl]; rfl
                 have s6 : (xn.toList == yn.toList) = true := by rw [ByteArray.toList_eq, ByteArray.toList_eq, hnx, hny, hne]; simp
                 rw [if_pos hne] at hcmp
                 have s7 : decide ((cx : Int) < (cy : Int)) = true := decide_eq_true (by omega)
                 have s8 : decide (cx < cy) = true := decide_eq_true (by omega)
                 clear hc hne hcmp hls hnx hny
                 go_upto_region 6 with fail
                 go_quiet ((go_at_call 43; first | (with_reducible exact quiet_left (HX1.out _)) | (with_reducible exact quiet_left (HY1.out _)))))
              | (rw [if_neg hne] at hcmp
                 have s5 : Op.bytesLess xn.toList yn.toList = true := by rw [hls]; exact decide_eq_true (by omega)
                 clear hc hne hcmp hls hnx hny
                 go_upto_region 6 with fail
                 go_quiet (fail))
            all_goals
              obtain ⟨w6, hw6⟩ : ∃ w6, wr.drewN nq = w6 := ⟨_, rfl⟩
              have HD6 := Lib.hid (show Dr wr w6 by rw [← hw6]; exact (Dr.refl wr).more nq)
              rw [hw6]
              clear hw6 x0 x1 x2 y0 y1 y2
              have HO6 := Lib.hid (owns_dr HQ.out.1 HD6.out)
              obtain ⟨x0, x1, x2⟩ := (row_of_owns HO6.out).1.of (atO_get HKM.out)
              rw [HJ.out.2.1] at x0 x1 x2
              obtain ⟨ex0, ex1, ex2⟩ : (⟨x.n.toArray⟩ : ByteArray) = xn ∧ x.t = xt ∧ x.p = xp := by
                have h9 := HEN.out.1
                unfold encO at h9
                simp at h9
                exact h9
              rw [ex0] at x0
              rw [ex1] at x1
              rw [ex2] at x2
              clear ex0 ex1 ex2
              go_upto_region 9 with fail
              have HBX := Lib.hid (show BoxO (w6.alloc (.cells #[.string xn, .int .i64 xt, .int .i64 xp] 23)) w6.heap.size x by
                have h9 := World.alloc_heap_new w6 (.cells #[.string xn, .int .i64 xt, .int .i64 xp] 23)
                unfold BoxO
                rw [HEN.out.1]
                exact h9)
              have HO7 := Lib.hid (HO6.out.alloc (.cells #[.string xn, .int .i64 xt, .int .i64 xp] 23))
              have HB7 := Lib.hid ((HQ.out.2.2.2.trans (HD6.out.below _)).alloc (by have := HQ.out.2.2.2.size; have := HD6.out.heap; rw [this]; exact HQ.out.2.2.2.size) (.cells #[.string xn, .int .i64 xt, .int .i64 xp] 23))
              have HG := Lib.hid (show g ≠ w6.heap.size ∧ w.heap.size ≤ g from ⟨by have := (owns_ge HO6.out).2; omega, (owns_ge HO6.out).1⟩)
              clear x0 x1 x2
              generalize w6.alloc (.cells #[.string xn, .int .i64 xt, .int .i64 xp] 23) = W7 at *
              generalize w6.heap.size = bx at *
              have hjM : j < M'.length := by have := HKM.out; have := HJ.out.1; omega
              obtain ⟨y0, y1, y2⟩ := (row_of_owns HO7.out).1.of (atO_get hjM)
              obtain ⟨x0, x1, x2⟩ := (row_of_owns HO7.out).1.of (atO_get HKM.out)
              rw [HJ.out.2.1] at x0 x1 x2
              rw [HJ.out.2.2.1] at y0 y1 y2
              obtain ⟨ey0, ey1, ey2⟩ : (⟨y.n.toArray⟩ : ByteArray) = yn ∧ y.t = yt ∧ y.p = yp := by
                have h9 := HEN.out.2
                unfold encO at h9
                simp at h9
                exact h9
              rw [ey0] at y0
              rw [ey1] at y1
              rw [ey2] at y2
              clear ey0 ey1 ey2
              have f0 := owns_frozen HO7.out (k * 3)
              have f1 := owns_frozen HO7.out (k * 3 + 1)
              have f2 := owns_frozen HO7.out (k * 3 + 2)
              have HJM := Lib.hid hjM
              clear hjM
              go_upto_region 10 with fail
              have HO8 := Lib.hid (owns_store HO7.out HKM.out HEN.out.2)
              have HB8 := Lib.hid (((HB7.out.setCell (p := ⟨g, k * 3, none⟩) HG.out.2 (.string yn)).setCell (p := ⟨g, k * 3 + 1, none⟩) HG.out.2 (.int .i64 yt)).setCell (p := ⟨g, k * 3 + 2, none⟩) HG.out.2 (.int .i64 yp))
              have HBX8 := Lib.hid (show BoxO (((W7.setCell ⟨g, k * 3, none⟩ (.string yn)).setCell ⟨g, k * 3 + 1, none⟩ (.int .i64 yt)).setCell ⟨g, k * 3 + 2, none⟩ (.int .i64 yp)) bx x from
                (Below.heap_setCell _ _ _ bx (Ne.symm HG.out.1)).trans ((Below.heap_setCell _ _ _ bx (Ne.symm HG.out.1)).trans ((Below.heap_setCell _ _ _ bx (Ne.symm HG.out.1)).trans HBX.out)))
              clear x0 x1 x2 y0 y1 y2 f0 f1 f2
              generalize ((W7.setCell ⟨g, k * 3, none⟩ (.string yn)).setCell ⟨g, k * 3 + 1, none⟩ (.int .i64 yt)).setCell ⟨g, k * 3 + 2, none⟩ (.int .i64 yp) = W8 at *
              have hjM8 : j < (M'.set k y).length := by rw [List.length_set]; exact HJM.out
              obtain ⟨z0, z1, z2⟩ := (row_of_owns HO8.out).1.of (atO_get hjM8)
              obtain ⟨x0, x1, x2⟩ := HBX8.out.cells
              obtain ⟨ex0, ex1, ex2⟩ : (⟨x.n.toArray⟩ : ByteArray) = xn ∧ x.t = xt ∧ x.p = xp := by
                have h9 := HEN.out.1
                unfold encO at h9
                simp at h9
                exact h9
              rw [ex0] at x0
              rw [ex1] at x1
              rw [ex2] at x2
              clear ex0 ex1 ex2
              have f0 := owns_frozen HO8.out (j * 3)
              have f1 := owns_frozen HO8.out (j * 3 + 1)
              have f2 := owns_frozen HO8.out (j * 3 + 2)
              have HJ8 := Lib.hid hjM8
              clear hjM8
              go_wp2
              have HSW := Lib.hid (show (M'.set k y).set j x = swO M' j by
                unfold swO
                rw [← HJ.out.1, HJ.out.2.1, HJ.out.2.2.1])
              have HO9 := owns_store HO8.out HJ8.out HEN.out.1
              rw [HSW.out] at HO9
              have hk1 : j + 1 < M'.length := by rw [← HJ.out.1]; exact HKM.out
              go_roundw
              case rel =>
                refine ⟨j, swO M' j, rfl, by have := HJ.out.1; have := HQ.out.2.2.1.le; omega, Lib.hid ⟨HO9, (swO_perm hk1).trans HQ.out.2.1, ?_, ((HB8.out.setCell (p := ⟨g, j * 3, none⟩) HG.out.2 _).setCell (p := ⟨g, j * 3 + 1, none⟩) HG.out.2 _).setCell (p := ⟨g, j * 3 + 2, none⟩) HG.out.2 _⟩⟩
                have h9 := HQ.out.2.2.1
                rw [HJ.out.1] at h9
                exact h9.step (by rw [← HJ.out.1, HJ.out.2.1, HJ.out.2.2.1]; exact HC.out)
              case measure =>
                have := HJ.out.1
                show ((j : Int)).toNat < ((k : Int)).toNat
                omega
          · have HC := Lib.hid hc
            rcases Classical.em (x.n = y.n) with hne | hne
            all_goals first
              | (have s5 : Op.bytesLess xn.toList yn.toList = false := by rw [hls, hne, cb_refl]; rfl
                 have s6 : (xn.toList == yn.toList) = true := by rw [ByteArray.toList_eq, ByteArray.toList_eq, hnx, hny, hne]; simp
                 rw [if_pos hne] at hcmp
                 have s7 : decide ((cx : Int) < (cy : Int)) = false := decide_eq_false (by omega)
                 have s8 : decide (cx < cy) = false := decide_eq_false (by omega)
                 clear hc hne hcmp hls hnx hny
                 go_upto_region 6 with fail
                 go_quiet ((go_at_call 43; first | (with_reducible exact quiet_left (HX1.out _)) | (with_reducible exact quiet_left (HY1.out _)))))
              | (rw [if_neg hne] at hcmp
                 have s5 : Op.bytesLess xn.toList yn.toList = false := by rw [hls]; exact decide_eq_false (by omega)
                 have s6 : (xn.toList == yn.toList) = false := by rw [ByteArray.toList_eq, ByteArray.toList_eq, hnx, hny]; exact beq_eq_false_iff_ne.2 hne
                 clear hc hne hcmp hls hnx hny
                 go_upto_region 6 with fail
                 go_quiet (fail))
            all_goals
              have HE2 := HStop.out _ ((Dr.refl wr).more nq) (.inr (by rw [show k - 1 = j by have := HJ.out.1; omega, HJ.out.2.1, HJ.out.2.2.1]; exact HC.out))
              go_wp2
              go_roundw
              case rel => exact ⟨i + 1, M', rfl, by omega, HLt.out.1, HE2⟩
              case measure =>
                have := HLt.out.1
                show ((n : Int) - ((i : Int) + 1)).toNat < ((n : Int) - (i : Int)).toNat
                omega
    · have ei : i = n := by omega
      subst ei
      have HM := Lib.hid (show M = srt L from by
        have h9 := HP.out.2.2.1
        have hl : M.length = i := by rw [HP.out.2.1.length_eq, HNN.out]
        rw [← hl] at h9
        exact h9.srt HP.out.2.1 HU.out)
      clear hlt hi hi1
      go_wp2
      go_ret
      refine ⟨g, c3, ?_, ?_, HP.out.2.2.2⟩
      · rw [HNN.out]; rfl
      · have h9 := HP.out.1
        rw [HM.out] at h9
        rw [HNN.out]
        exact h9
end Go.Proofs.YtfdcponamkfcaaaDoor

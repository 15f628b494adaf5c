import Derived.Test.YtggdmhkdmkldoaaSz
import Derived.Test.YtggdmhkdmkldoaaReg
namespace Go.Proofs.Ytggdmhkdmkldoaa
open Go.RowKit Hb
set_option linter.unusedVariables false
set_option linter.unusedSimpArgs false

/-! ### the reference's Sign, Cmp -/
theorem len_zero' {y : Int} : (digs 2 y.natAbs).length = 0 ↔ y = 0 := by
  constructor
  · intro h
    have h9 := nv_digs (b := 2) (by decide) y.natAbs
    rw [List.length_eq_zero_iff.1 h] at h9
    have : (0 : Nat) = y.natAbs := h9
    omega
  · rintro rfl; rw [show (0 : Int).natAbs = 0 from rfl, digs_zero]; rfl
set_option maxHeartbeats 1000000 in
theorem rsign_any (x : Int) (A : Option Addr) (c : Nat) (w : World) :
    Calls Try.prog 43 #[.agg #[.bool (decide (x < 0)), .slice A (digs 2 x.natAbs).length c]] w fun e w' => e = .returned (.int .i64 x.sign) ∧ Below w.heap.size w w' := by
  have HB := Lib.hid ((Below.refl w.heap.size w).alloc (Nat.le_refl _) (.cells #[.bool (decide (x < 0)), .slice A (digs 2 x.natAbs).length c] 28))
  have hl := len_zero' (y := x)
  obtain ⟨n, hn⟩ : ∃ n, (digs 2 x.natAbs).length = n := ⟨_, rfl⟩
  rw [hn] at hl HB ⊢
  obtain ⟨s, hs⟩ : ∃ s, decide (x < 0) = s := ⟨_, rfl⟩
  rw [hs] at HB ⊢
  rcases (by omega : x = 0 ∨ 0 < x ∨ x < 0) with hx | hx | hx
  · have h0 := hl.2 hx
    subst h0
    have hsx : x.sign = 0 := by rw [hx]; rfl
    rw [hsx]
    clear hl hx hn hsx hs
    go_enter Try.func43, Try.ntmps43
    go_wp2
    go_ret
    exact ⟨rfl, HB.out⟩
  · have h0 : ¬ n = 0 := fun h => by have := hl.1 h; omega
    obtain rfl : s = false := by rw [← hs]; exact decide_eq_false (by omega)
    have hsx : x.sign = 1 := Int.sign_eq_one_of_pos hx
    rw [hsx]
    have hnb : ((n : Int) == 0) = false := beq_eq_false_iff_ne.2 (by omega)
    clear hl hx hn hsx hs
    go_enter Try.func43, Try.ntmps43
    go_wp2
    go_ret
    exact ⟨rfl, HB.out⟩
  · have h0 : ¬ n = 0 := fun h => by have := hl.1 h; omega
    obtain rfl : s = true := by rw [← hs]; exact decide_eq_true (by omega)
    have hsx : x.sign = -1 := Int.sign_eq_neg_one_of_neg hx
    rw [hsx]
    have hnb : ((n : Int) == 0) = false := beq_eq_false_iff_ne.2 (by omega)
    clear hl hx hn hsx hs
    go_enter Try.func43, Try.ntmps43
    go_wp2
    go_ret
    exact ⟨rfl, HB.out⟩
theorem two_set {w : World} {g t : Nat} {x y u v : Value} (h : w.heap[g]? = some (.cells #[x, y] t (0, 0))) : ((w.setCell ⟨g, 0, none⟩ u).setCell ⟨g, 1, none⟩ v).heap[g]? = some (.cells #[u, v] t (0, 0)) := by
  simp [World.setCell, Array.getElem?_modify, h]
set_option maxRecDepth 100000 in
set_option maxHeartbeats 2000000 in
theorem rcmp_any {x y : Int} {B B' : Nat} {A A' : Option Addr} {c c' : Nat} {w : World} (hs : SlI w B A (digs 2 x.natAbs).length c (digs 2 x.natAbs)) (ht : SlI w B' A' (digs 2 y.natAbs).length c' (digs 2 y.natAbs)) (hB : B ≤ w.heap.size) (hB' : B' ≤ w.heap.size) (hn : (digs 2 x.natAbs).length ≤ 33554432) (hn' : (digs 2 y.natAbs).length ≤ 33554432) {k : Int} (hk : cmpZ x y = k) :
    Calls Try.prog 44 #[.agg #[.bool (decide (x < 0)), .slice A (digs 2 x.natAbs).length c], .agg #[.bool (decide (y < 0)), .slice A' (digs 2 y.natAbs).length c']] w fun e w' => e = .returned (.int .i64 k) ∧ Below w.heap.size w w' := by
  obtain ⟨my, hmy⟩ : ∃ m, -y = m := ⟨_, rfl⟩
  obtain ⟨d, hd⟩ : ∃ d, x + my = d := ⟨_, rfl⟩
  have HK := Lib.hid (show d.sign = k by rw [← hk, ← sign_cmp]; congr 1; omega)
  have HB := Lib.hid (((Below.refl w.heap.size w).alloc (Nat.le_refl _) (.cells #[.bool (decide (x < 0)), .slice A (digs 2 x.natAbs).length c] 28)).alloc (by simp) (.cells #[.bool (decide (y < 0)), .slice A' (digs 2 y.natAbs).length c'] 28))
  have HX0 := Lib.hid (heap_first2 w (.cells #[.bool (decide (x < 0)), .slice A (digs 2 x.natAbs).length c] 28) (.cells #[.bool (decide (y < 0)), .slice A' (digs 2 y.natAbs).length c'] 28))
  have HX1 := Lib.hid (heap_second w (.cells #[.bool (decide (x < 0)), .slice A (digs 2 x.natAbs).length c] 28) (.cells #[.bool (decide (y < 0)), .slice A' (digs 2 y.natAbs).length c'] 28))
  have HM := Lib.hid (fun w1 (hb : Below w.heap.size w w1) => Minus_w hmy ((ht.below (C := w.heap.size) hb hB').mono (Nat.le_trans hB' hb.size)))
  have HSu := Lib.hid (fun w1 (hb : Below w.heap.size w w1) => Sum_m hmy ((hs.below (C := w.heap.size) hb hB).mono (Nat.le_trans hB hb.size)) ((ht.below (C := w.heap.size) hb hB').mono (Nat.le_trans hB' hb.size)) hn hn' hd)
  have hsz : w.heap.size + 2 ≤ ((w.alloc (.cells #[.bool (decide (x < 0)), .slice A (digs 2 x.natAbs).length c] 28)).alloc (.cells #[.bool (decide (y < 0)), .slice A' (digs 2 y.natAbs).length c'] 28)).heap.size := by simp
  generalize (digs 2 x.natAbs).length = n at *
  generalize (digs 2 y.natAbs).length = n' at *
  generalize decide (x < 0) = sx at *
  generalize decide (y < 0) = sy at *
  generalize decide (my < 0) = sm at *
  clear hs ht hB hB' hn hn' hk hmy hd
  go_enter Try.func44, Try.ntmps44
  go_upto_region 1 with fail
  generalize ((w.alloc (.cells #[.bool sx, .slice A n c] 28)).alloc (.cells #[.bool sy, .slice A' n' c'] 28)) = w2 at *
  refine wp_region_wait (fun w' => (w'.cell? ⟨w.heap.size, 0, none⟩ = some (.bool sx) ∧ w'.cell? ⟨w.heap.size, 1, none⟩ = some (.slice A n c)) ∧ (w'.cell? ⟨w.heap.size + 1, 0, none⟩ = some (.bool sy) ∧ w'.cell? ⟨w.heap.size + 1, 1, none⟩ = some (.slice A' n' c'))) 5 (by kernel_rfl) ?_
  change wpAnyW _ _ _ _ _ _ _ _ _ w2.drew
  have HSS := Lib.hid (fun w' (hb : Below w2.heap.size w2 w') => show ((w'.cell? ⟨w.heap.size, 0, none⟩ = some (.bool sx) ∧ w'.cell? ⟨w.heap.size, 1, none⟩ = some (.slice A n c)) ∧ (w'.cell? ⟨w.heap.size + 1, 0, none⟩ = some (.bool sy) ∧ w'.cell? ⟨w.heap.size + 1, 1, none⟩ = some (.slice A' n' c'))) from
    ⟨⟨(two_cells hb HX0.out (by omega)).1, (two_cells hb HX0.out (by omega)).2.1⟩, ⟨(two_cells hb HX1.out (by omega)).1, (two_cells hb HX1.out (by omega)).2.1⟩⟩)
  have HB3 := Lib.hid (Below.refl w2.heap.size w2).drew
  have hz3 : w2.heap.size ≤ w2.drew.heap.size := Nat.le_refl _
  generalize w2.drew = w3 at *
  have HSC := Lib.hid (HSS.out _ HB3.out)
  refine wpAnyW_take 5 (i := 0) (v := .agg #[.bool sx, .slice A n c]) rfl (by kernel_rfl) (by kernel_rfl) (by kernel_rfl) (by kernel_rfl) (fun _ _ _ h => h) (Or.inl ⟨by kernel_rfl, fun w5 hSw => by go_simp⟩) HSC.out ?_
  refine wpAnyW_take 5 (i := 1) (v := .agg #[.bool sy, .slice A' n' c']) rfl (by kernel_rfl) (by kernel_rfl) (by kernel_rfl) (by kernel_rfl) (fun _ _ _ h => h) (Or.inl ⟨by kernel_rfl, fun w5 hSw => by go_simp⟩) HSC.out ?_
  go_simp
  refine wpAnyW_two (i := 2) (i2 := 4) (by kernel_rfl) rfl rfl (fun K hK => ?_) (fun K hK => ?_)
  · go_simp
    (refine (HM.out _ (HB.out.trans ((HB3.out).mono HB.out.size))).mono ?_)
    rintro ex w4 ⟨rfl, hbw4⟩
    have K4 : Below w2.heap.size w2 w4 := HB3.out.trans (hbw4.mono (by first | omega | (simp; done) | (simp; omega)))
    have hz4 := K4.size
    refine hK.out _ _ (fun _ => HSS.out _ K4) ?_
    refine wpAnyW_two (i := 3) (i2 := 4) (by kernel_rfl) rfl rfl (fun K hK => ?_) (fun K hK => ?_)
    · go_simp
      (refine (HSu.out _ (HB.out.trans ((K4).mono HB.out.size))).mono ?_)
      rintro ex w5 ⟨v5, rfl, ⟨A5, c5, rfl, ho5⟩, hbw5⟩
      have K5 : Below w2.heap.size w2 w5 := K4.trans (hbw5.mono hz4)
      have hz5 := K5.size
      refine hK.out _ _ (fun _ => HSS.out _ K5) ?_
      refine wpAnyW_one (i := 4) (by kernel_rfl) rfl (fun K hK => ?_)
      go_simp
      refine hK.out _ _ (fun _ => HSS.out _ (K5.alloc hz5 (.cells #[.bool false, .slice none 0 0] 28))) ?_
      have hv8 := heap_alloc_new w5 (.cells #[.bool (decide (d < 0)), .slice A5 (digs 2 d.natAbs).length c5] 28)
      have KB9 := Lib.hid (HB.out.trans (((K5).alloc hz5 (.cells #[.bool (decide (d < 0)), .slice A5 (digs 2 d.natAbs).length c5] 28)).mono HB.out.size))
      refine wpAnyW_one (i := 5) (by kernel_rfl) rfl (fun K hK => ?_)
      go_simp
      refine hK.out _ _ (fun h => absurd h (by simp)) ?_
      refine wpAnyW_done (by kernel_rfl) ?_ _
      generalize w5.alloc (.cells #[.bool (decide (d < 0)), .slice A5 (digs 2 d.natAbs).length c5] 28) = w9 at *
      obtain ⟨q0, q1, _, _⟩ := two_cells (C := w9.heap.size) (Below.refl _ _) hv8 (Array.getElem?_eq_some_iff.1 hv8).1
      go_wp2_with fail
      (refine (rsign_any d _ _ _).mono ?_)
      rintro ex w10 ⟨rfl, hb10⟩
      have KF := Lib.hid (KB9.out.trans (hb10.mono KB9.out.size))
      clear hb10
      go_wp2
      go_ret
      exact ⟨ret_eq (by first | rfl | (rw [HK.out]; rfl)), KF.out⟩
    · go_simp
      have K5 : Below w2.heap.size w2 (w4.alloc (.cells #[.bool false, .slice none 0 0] 28)) := K4.alloc hz4 (.cells #[.bool false, .slice none 0 0] 28)
      have hv4 : (w4.alloc (.cells #[.bool false, .slice none 0 0] 28)).heap[w4.heap.size]? = some (.cells #[.bool false, .slice none 0 0] 28 (0, 0)) := heap_alloc_new w4 _
      have hlt : w4.heap.size < (w4.alloc (.cells #[.bool false, .slice none 0 0] 28)).heap.size := by simp
      refine hK.out _ _ (fun _ => HSS.out _ K5) ?_
      generalize w4.alloc (.cells #[.bool false, .slice none 0 0] 28) = w6 at *
      refine wpAnyW_one (i := 3) (by kernel_rfl) rfl (fun K hK => ?_)
      go_simp
      (refine (HSu.out _ (HB.out.trans ((K5).mono HB.out.size))).mono ?_)
      rintro ex w7 ⟨v5, rfl, ⟨A5, c5, rfl, ho5⟩, hbw7⟩
      have K7 : Below w2.heap.size w2 w7 := K5.trans (hbw7.mono K5.size)
      refine hK.out _ _ (fun _ => HSS.out _ K7) ?_
      have hv9 := (hbw7.block _ hlt).trans hv4
      obtain ⟨t0, t1, t2, t3⟩ := two_cells (C := (w7).heap.size) (Below.refl _ _) hv9 (Nat.lt_of_lt_of_le hlt hbw7.size)
      have hv8 := two_set (u := .bool (decide (d < 0))) (v := .slice A5 (digs 2 d.natAbs).length c5) hv9
      have KB9 := Lib.hid (HB.out.trans ((((K7).setCell (p := ⟨w4.heap.size, 0, none⟩) hz4 (.bool (decide (d < 0)))).setCell (p := ⟨w4.heap.size, 1, none⟩) hz4 (.slice A5 (digs 2 d.natAbs).length c5)).mono HB.out.size))
      refine wpAnyW_one (i := 5) (by kernel_rfl) rfl (fun K hK => ?_)
      go_simp
      refine hK.out _ _ (fun h => absurd h (by simp)) ?_
      refine wpAnyW_done (by kernel_rfl) ?_ _
      clear t0 t1 t2 t3 hv9
      generalize (((w7).setCell ⟨w4.heap.size, 0, none⟩ (.bool (decide (d < 0)))).setCell ⟨w4.heap.size, 1, none⟩ (.slice A5 (digs 2 d.natAbs).length c5)) = w9 at *
      obtain ⟨q0, q1, _, _⟩ := two_cells (C := w9.heap.size) (Below.refl _ _) hv8 (Array.getElem?_eq_some_iff.1 hv8).1
      go_wp2_with fail
      (refine (rsign_any d _ _ _).mono ?_)
      rintro ex w10 ⟨rfl, hb10⟩
      have KF := Lib.hid (KB9.out.trans (hb10.mono KB9.out.size))
      clear hb10
      go_wp2
      go_ret
      exact ⟨ret_eq (by first | rfl | (rw [HK.out]; rfl)), KF.out⟩
  · go_simp
    have K5 : Below w2.heap.size w2 (w3.alloc (.cells #[.bool false, .slice none 0 0] 28)) := HB3.out.alloc (by first | omega | (simp; done) | (simp; omega)) (.cells #[.bool false, .slice none 0 0] 28)
    have hv4 : (w3.alloc (.cells #[.bool false, .slice none 0 0] 28)).heap[w3.heap.size]? = some (.cells #[.bool false, .slice none 0 0] 28 (0, 0)) := heap_alloc_new w3 _
    have hlt : w3.heap.size < (w3.alloc (.cells #[.bool false, .slice none 0 0] 28)).heap.size := by simp
    have hz4 : w2.heap.size ≤ w3.heap.size := by omega
    refine hK.out _ _ (fun _ => HSS.out _ K5) ?_
    generalize w3.alloc (.cells #[.bool false, .slice none 0 0] 28) = w6 at *
    refine wpAnyW_one (i := 2) (by kernel_rfl) rfl (fun K hK => ?_)
    go_simp
    (refine (HM.out _ (HB.out.trans ((K5).mono HB.out.size))).mono ?_)
    rintro ex w4 ⟨rfl, hbw4⟩
    have K4 : Below w2.heap.size w2 w4 := K5.trans (hbw4.mono K5.size)
    refine hK.out _ _ (fun _ => HSS.out _ K4) ?_
    refine wpAnyW_one (i := 3) (by kernel_rfl) rfl (fun K hK => ?_)
    go_simp
    (refine (HSu.out _ (HB.out.trans ((K4).mono HB.out.size))).mono ?_)
    rintro ex w7 ⟨v5, rfl, ⟨A5, c5, rfl, ho5⟩, hbw7⟩
    have K7 : Below w2.heap.size w2 w7 := K4.trans (hbw7.mono K4.size)
    refine hK.out _ _ (fun _ => HSS.out _ K7) ?_
    have hv9 := (hbw7.block _ (Nat.lt_of_lt_of_le hlt hbw4.size)).trans ((hbw4.block _ hlt).trans hv4)
    obtain ⟨t0, t1, t2, t3⟩ := two_cells (C := (w7).heap.size) (Below.refl _ _) hv9 (Nat.lt_of_lt_of_le hlt (Nat.le_trans hbw4.size hbw7.size))
    have hv8 := two_set (u := .bool (decide (d < 0))) (v := .slice A5 (digs 2 d.natAbs).length c5) hv9
    have KB9 := Lib.hid (HB.out.trans ((((K7).setCell (p := ⟨w3.heap.size, 0, none⟩) hz4 (.bool (decide (d < 0)))).setCell (p := ⟨w3.heap.size, 1, none⟩) hz4 (.slice A5 (digs 2 d.natAbs).length c5)).mono HB.out.size))
    refine wpAnyW_one (i := 5) (by kernel_rfl) rfl (fun K hK => ?_)
    go_simp
    refine hK.out _ _ (fun h => absurd h (by simp)) ?_
    refine wpAnyW_done (by kernel_rfl) ?_ _
    clear t0 t1 t2 t3 hv9
    generalize (((w7).setCell ⟨w3.heap.size, 0, none⟩ (.bool (decide (d < 0)))).setCell ⟨w3.heap.size, 1, none⟩ (.slice A5 (digs 2 d.natAbs).length c5)) = w9 at *
    obtain ⟨q0, q1, _, _⟩ := two_cells (C := w9.heap.size) (Below.refl _ _) hv8 (Array.getElem?_eq_some_iff.1 hv8).1
    go_wp2_with fail
    (refine (rsign_any d _ _ _).mono ?_)
    rintro ex w10 ⟨rfl, hb10⟩
    have KF := Lib.hid (KB9.out.trans (hb10.mono KB9.out.size))
    clear hb10
    go_wp2
    go_ret
    exact ⟨ret_eq (by first | rfl | (rw [HK.out]; rfl)), KF.out⟩
end Go.Proofs.Ytggdmhkdmkldoaa

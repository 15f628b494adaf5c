import Derived.Test.YtggdmhkdmkldoaaTb
namespace Go.Proofs.Ytggdmhkdmkldoaa
open Go.RowKit Hb
set_option linter.unusedVariables false
set_option linter.unusedSimpArgs false

/-! ### Quo -/
theorem heap4' (w : World) (a b c d : Obj) :
    ((((w.alloc a).alloc b).alloc c).alloc d).heap[w.heap.size]? = some a ∧ ((((w.alloc a).alloc b).alloc c).alloc d).heap[w.heap.size + 1]? = some b ∧ ((((w.alloc a).alloc b).alloc c).alloc d).heap[w.heap.size + 1 + 1]? = some c ∧
    ((((w.alloc a).alloc b).alloc c).alloc d).heap[w.heap.size + 1 + 1 + 1]? = some d ∧ ((((w.alloc a).alloc b).alloc c).alloc d).heap.size = w.heap.size + 4 := heap4 w a b c d
theorem bval_tdiv (x y : Int) {o : List Nat} (ho : nv 2 o = x.natAbs / y.natAbs) : bval (!(decide (x < 0)) == decide (y < 0)) o = x.tdiv y := by
  unfold bval
  rw [ho]
  by_cases hx : x < 0 <;> by_cases hy : y < 0
  · obtain ⟨a, rfl⟩ : ∃ a : Nat, x = -(a : Int) := ⟨x.natAbs, by omega⟩
    obtain ⟨b, rfl⟩ : ∃ b : Nat, y = -(b : Int) := ⟨y.natAbs, by omega⟩
    rw [decide_eq_true hx, decide_eq_true hy, Int.neg_tdiv, Int.tdiv_neg, Int.neg_neg]
    simp [Int.tdiv_eq_ediv_of_nonneg]
  · obtain ⟨a, rfl⟩ : ∃ a : Nat, x = -(a : Int) := ⟨x.natAbs, by omega⟩
    obtain ⟨b, rfl⟩ : ∃ b : Nat, y = (b : Int) := ⟨y.natAbs, by omega⟩
    rw [decide_eq_true hx, decide_eq_false hy, Int.neg_tdiv]
    simp [Int.tdiv_eq_ediv_of_nonneg]
  · obtain ⟨a, rfl⟩ : ∃ a : Nat, x = (a : Int) := ⟨x.natAbs, by omega⟩
    obtain ⟨b, rfl⟩ : ∃ b : Nat, y = -(b : Int) := ⟨y.natAbs, by omega⟩
    rw [decide_eq_false hx, decide_eq_true hy, Int.tdiv_neg]
    simp [Int.tdiv_eq_ediv_of_nonneg]
  · obtain ⟨a, rfl⟩ : ∃ a : Nat, x = (a : Int) := ⟨x.natAbs, by omega⟩
    obtain ⟨b, rfl⟩ : ∃ b : Nat, y = (b : Int) := ⟨y.natAbs, by omega⟩
    rw [decide_eq_false hx, decide_eq_false hy]
    simp [Int.tdiv_eq_ediv_of_nonneg]
theorem bval_tmod (x y : Int) {o : List Nat} (ho : nv 2 o = x.natAbs % y.natAbs) : bval (decide (x < 0)) o = x.tmod y := by
  unfold bval
  rw [ho]
  have hm : ∀ z : Int, z.tmod y = z.tmod (y.natAbs : Int) := fun z => by
    by_cases hy : y < 0
    · obtain ⟨b, rfl⟩ : ∃ b : Nat, y = -(b : Int) := ⟨y.natAbs, by omega⟩
      rw [Int.tmod_neg]; simp
    · rw [show (y.natAbs : Int) = y by omega]
  rw [hm]
  by_cases hx : x < 0
  · obtain ⟨a, rfl⟩ : ∃ a : Nat, x = -(a : Int) := ⟨x.natAbs, by omega⟩
    rw [decide_eq_true hx, Int.neg_tmod, Int.tmod_eq_emod_of_nonneg (by omega)]
    simp
  · obtain ⟨a, rfl⟩ : ∃ a : Nat, x = (a : Int) := ⟨x.natAbs, by omega⟩
    rw [decide_eq_false hx, Int.tmod_eq_emod_of_nonneg (by omega)]
    simp
def QuoPost (w : World) (q r : Int) (e : Ending) (w' : World) : Prop :=
  ∃ A c A2 c2, e = .returned (.tuple #[.agg #[.bool (decide (q < 0)), .slice A (digs 2 q.natAbs).length c], .agg #[.bool (decide (r < 0)), .slice A2 (digs 2 r.natAbs).length c2]]) ∧
    OwnI w' w.heap.size A (digs 2 q.natAbs).length c (i64s (digs 2 q.natAbs)) ∧ OwnI w' w.heap.size A2 (digs 2 r.natAbs).length c2 (i64s (digs 2 r.natAbs)) ∧ (∀ g, A2 = some ⟨g, 0, none⟩ → A ≠ some ⟨g, 0, none⟩) ∧ Below w.heap.size w w'
theorem Own.four {t : TypeId} {w2 : World} {base n c g2 g3 : Nat} {A : Option Addr} {xs : List Value} (ho : Own t w2 base A n c xs) (h2 : g2 < base) (h3 : g3 < base) (u u' v v' : Value) :
    Own t ((((w2.setCell ⟨g2, 0, none⟩ u).setCell ⟨g2, 1, none⟩ u').setCell ⟨g3, 0, none⟩ v).setCell ⟨g3, 1, none⟩ v') base A n c xs :=
  Own.farB (Own.farB (Own.farB (Own.farB ho (p := ⟨g2, 0, none⟩) h2 u) (p := ⟨g2, 1, none⟩) h2 u') (p := ⟨g3, 0, none⟩) h3 v) (p := ⟨g3, 1, none⟩) h3 v'
set_option maxRecDepth 100000 in
set_option maxHeartbeats 4000000 in
theorem Quo_any {x y : Int} {B B' : Nat} {A A' : Option Addr} {c c' : Nat} {w : World} (hs : SlI w B A (digs 2 x.natAbs).length c (digs 2 x.natAbs)) (hA : A = none → c = 0) (ht : SlI w B' A' (digs 2 y.natAbs).length c' (digs 2 y.natAbs)) (hB : B ≤ w.heap.size) (hB' : B' ≤ w.heap.size) (hn : (digs 2 x.natAbs).length ≤ 33554432) (hn' : (digs 2 y.natAbs).length ≤ 33554432) (hy : y ≠ 0) {q r : Int} (hq : x.tdiv y = q) (hr : x.tmod y = r) :
    Calls Try.prog 22 #[.agg #[.bool (decide (x < 0)), .slice A (digs 2 x.natAbs).length c], .agg #[.bool (decide (y < 0)), .slice A' (digs 2 y.natAbs).length c']] w (QuoPost w q r) := by
  have HD := Lib.hid (fun w1 (hb : Below w.heap.size w w1) => by
    have h := divided_any (hs.below (C := w.heap.size) hb hB) hA (ht.below (C := w.heap.size) hb hB') (by omega) (by omega) (Nat.le_trans hB hb.size) (Nat.le_trans hB' hb.size) (nrm_digs (by decide) _) (by rw [nv_digs (by decide)]; omega)
    rw [nv_digs (by decide), nv_digs (by decide)] at h
    exact h)
  have HQ := Lib.hid (bval_tdiv x y (o := digs 2 (x.natAbs / y.natAbs)) (nv_digs (by decide) _))
  have HR := Lib.hid (bval_tmod x y (o := digs 2 (x.natAbs % y.natAbs)) (nv_digs (by decide) _))
  rw [hq] at HQ
  rw [hr] at HR
  generalize x.natAbs / y.natAbs = vq at *
  generalize x.natAbs % y.natAbs = vr at *
  generalize (digs 2 x.natAbs).length = n at *
  generalize (digs 2 y.natAbs).length = n' at *
  generalize decide (x < 0) = sx at *
  generalize decide (y < 0) = sy at *
  obtain ⟨e0, e1, e2, e3, e4⟩ := heap4 w (.cells #[.bool sx, .slice A n c] 28) (.cells #[.bool sy, .slice A' n' c'] 28) (.cells #[.bool false, .slice none 0 0] 28) (.cells #[.bool false, .slice none 0 0] 28)
  have HW := Lib.hid (And.intro e0 (And.intro e1 (And.intro e2 e3)))
  have HB := Lib.hid ((((((Below.refl w.heap.size w).alloc (Nat.le_refl _) (.cells #[.bool sx, .slice A n c] 28)).alloc (by simp) (.cells #[.bool sy, .slice A' n' c'] 28)).alloc (by simp; omega) (.cells #[.bool false, .slice none 0 0] 28))).alloc (by simp; omega) (.cells #[.bool false, .slice none 0 0] 28))
  clear hs hA ht hB hB' hn hn' hy hq hr e0 e1 e2 e3
  go_enter Try.func22, Try.ntmps22
  go_upto_region 1 with fail
  generalize ((((w.alloc (.cells #[.bool sx, .slice A n c] 28)).alloc (.cells #[.bool sy, .slice A' n' c'] 28)).alloc (.cells #[.bool false, .slice none 0 0] 28)).alloc (.cells #[.bool false, .slice none 0 0] 28)) = W0 at *
  obtain ⟨a0, a1, _, _⟩ := two_cells (C := W0.heap.size) (Below.refl _ _) HW.out.1 (by omega)
  obtain ⟨b0, b1, _, _⟩ := two_cells (C := W0.heap.size) (Below.refl _ _) HW.out.2.1 (by omega)
  go_wp2_with fail
  (refine (HD.out _ HB.out).mono ?_)
  rintro ex w2 ⟨A1, c1, A2, c2, rfl, ho1, ho2, hne, hb2⟩
  have HO1 := Lib.hid ho1
  have HO2 := Lib.hid ho2
  have HNE := Lib.hid hne
  have HB2 := Lib.hid hb2
  have hz2 := hb2.size
  have HSS := Lib.hid (fun w' (hb : Below w2.heap.size w2 w') => And.intro (two_cells (hb2.trans (hb.mono hz2)) HW.out.1 (by omega)).1 (And.intro (two_cells (hb2.trans (hb.mono hz2)) HW.out.2.1 (by omega)).1 (And.intro (two_cells (hb2.trans (hb.mono hz2)) HW.out.2.2.1 (by omega)) (two_cells (hb2.trans (hb.mono hz2)) HW.out.2.2.2 (by omega)))))
  clear ho1 ho2 hne hb2 a0 a1 b0 b1 HD
  go_upto_region 2 with fail
  obtain ⟨a0, b0, _, _⟩ := HSS.out _ (Below.refl _ w2)
  go_region_held3 (fun w' => w'.cell? ⟨w.heap.size, 0, none⟩ = some (.bool sx) ∧ w'.cell? ⟨w.heap.size + 1, 0, none⟩ = some (.bool sy))
    (first
      | (go_keep; done)
      | exact ⟨far2 (far2 (HSS.out _ k5).1 (by show w.heap.size ≠ _; omega)) (by show w.heap.size ≠ _; omega), far2 (far2 (HSS.out _ k5).2.1 (by show w.heap.size + 1 ≠ _; omega)) (by show w.heap.size + 1 ≠ _; omega)⟩
      | exact ⟨far2 (HSS.out _ k5).1 (by show w.heap.size ≠ _; omega), far2 (HSS.out _ k5).2.1 (by show w.heap.size + 1 ≠ _; omega)⟩
      | exact ⟨(HSS.out _ k5).1, (HSS.out _ k5).2.1⟩
      | exact ⟨(HSS.out _ k4).1, (HSS.out _ k4).2.1⟩
      | exact ⟨(HSS.out _ (Below.refl w2.heap.size w2).drew).1, (HSS.out _ (Below.refl w2.heap.size w2).drew).2.1⟩)
    (first
      | (go_at_call 68; (with_reducible refine (rlaid_at (!sx == sy) (HO1.out.below (Below.refl w2.heap.size w2).drew (Nat.le_refl _)) rfl (dig_digs (by decide) _) HQ.out).mono ?_); rintro e w4 ⟨rfl, ho4, hb4⟩; have k4 : Below w2.heap.size w2 w4 := (Below.refl w2.heap.size w2).drew.trans hb4; have kz4 := k4.size)
      | (go_at_call 68; (with_reducible refine (rlaid_at sx (HO2.out.below k4 (Nat.le_refl _)) rfl (dig_digs (by decide) _) HR.out).mono ?_); rintro e w5 ⟨rfl, ho5, hb5⟩; have k5 : Below w2.heap.size w2 w5 := k4.trans (hb5.mono kz4); obtain ⟨_, _, ⟨r0, r1, r2, r3⟩, ⟨s0, s1, s2, s3⟩⟩ := HSS.out _ k5))
  have HO4 := Lib.hid (ho4.below hb5 (Nat.le_refl _))
  have HO5 := Lib.hid ho5
  have HB5 := Lib.hid (HB.out.trans ((HB2.out.trans (k5.mono hz2)).mono HB.out.size))
  have g2 : w.heap.size + 1 + 1 < W0.heap.size := by omega
  have g3 : w.heap.size + 1 + 1 + 1 < W0.heap.size := by omega
  clear ho4 ho5 hb4 hb5 k4 k5 a0 b0
  go_wp2
  exact bodyPost_ret (v := .tuple #[.agg #[.bool (decide (q < 0)), .slice A1 (digs 2 q.natAbs).length c1], .agg #[.bool (decide (r < 0)), .slice A2 (digs 2 r.natAbs).length c2]]) (by simp [results, Try.results22, go_sem, r0, r1, s0, s1]) rfl
    ⟨A1, c1, A2, c2, rfl, Own.mono (Own.four HO4.out g2 g3 _ _ _ _) (by omega), Own.mono (Own.four HO5.out g2 g3 _ _ _ _) (by omega), HNE.out,
      (((HB5.out.setCell (by simp; omega) _).setCell (by simp; omega) _).setCell (by simp; omega) _).setCell (by simp; omega) _⟩
end Go.Proofs.Ytggdmhkdmkldoaa

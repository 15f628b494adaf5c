import Derived.Test.YtpikjceodmepiaaAmm
set_option linter.unusedVariables false
set_option linter.unusedSimpArgs false
namespace Go.Proofs.Ytpikjceodmepiaa
open Go.RowKit Hb Hf
set_option linter.unusedVariables false
set_option linter.unusedSimpArgs false
attribute [local go_sem ↓] Go.wp_at_zero Go.wp_at_succ
/-! ### a row of one range that has been built -/
theorem RRow.built {w : World} {P : Nat → Prop} {q : Rg} (hq : Rg.At w P q) (hP : ∀ b, P b → b < w.heap.size) : RRow (w.alloc (.cells (cells6 q).toArray 41)) w.heap.size P (some ⟨w.heap.size, 0, none⟩) 1 1 [q] := by
  refine ⟨⟨by rw [fl6_length]; rfl, .inr ⟨w.heap.size, 1, (cells6 q).toArray, rfl, Nat.le_refl _, heap_alloc_new w _, Nat.le_refl _, by simp [maxLen], by show (cells6 q).toArray.size = 1 * 6; simp; rfl, ?_⟩⟩, fun p hp => ?_⟩
  · simp [fl6]
    rfl
  · rw [List.mem_singleton.1 hp]
    exact hq.keep (fun b hb => ⟨⟨hb, fun e => by
      have h1 := hP b hb
      simp only [Value.ownBlock] at e
      injection e with e
      omega⟩, ((Below.refl w.heap.size w).alloc (Nat.le_refl _) _).block b (hP b hb)⟩)
def allP : List Rg := [(ib (-1), ib 1)]
def AllPost (w : World) (e : Ending) (w' : World) : Prop := e = .returned (.slice (some ⟨w.heap.size, 0, none⟩) 1 1) ∧ RRow w' w.heap.size (fun _ => False) (some ⟨w.heap.size, 0, none⟩) 1 1 allP ∧ Below w.heap.size w w' ∧ w.heap.size < w'.heap.size
theorem at_all (w : World) (P : Nat → Prop) : Rg.At w P (ib (-1), ib 1) := ⟨ib_at _ _ (.inl rfl), ib_at _ _ (.inr (.inr rfl))⟩
set_option maxHeartbeats 1000000 in
theorem All_any {w : World} : Calls Try.prog 37 #[] w (AllPost w) := by
  have HR := Lib.hid (RRow.built (w := w) (P := fun _ => False) (at_all w _) (fun b h => h.elim))
  have HB := Lib.hid (show Below w.heap.size w (w.alloc (.cells (cells6 (ib (-1), ib 1)).toArray 41)) from (Below.refl _ _).alloc (Nat.le_refl _) _)
  simp only [ib, cells6_eq] at HR HB
  have key : AllPost w (.returned (.slice (some ⟨w.heap.size, 0, none⟩) 1 1)) (w.alloc (.cells #[.int .i64 (-1), .bool false, .slice none 0 0, .int .i64 1, .bool false, .slice none 0 0] 41)) := ⟨rfl, HR.out, HB.out, by simp⟩
  go_enter Try.func37, Try.ntmps37
  go_wp2_with fail
  exact bodyPost_ret (v := .slice (some ⟨w.heap.size, 0, none⟩) 1 1) (by simp [results, Try.results37, go_sem]) rfl key
/-! ### the law's all -/
set_option maxRecDepth 100000 in
set_option maxHeartbeats 4000000 in
theorem all_true {w : World} : Calls Try.prog 14 #[] w fun e w' => e = .returned (.bool true) ∧ Below w.heap.size w w' := by
  obtain ⟨B, hB⟩ : ∃ B, w.heap.size = B := ⟨_, rfl⟩
  have HB := Lib.hid hB
  have HA := Lib.hid (All_any (w := w))
  unfold AllPost at HA
  rw [hB] at HA ⊢
  clear hB
  go_enter Try.func14, Try.ntmps14
  go_wp2_with fail
  (with_reducible refine HA.out.mono ?_)
  rintro e w1 ⟨he, hrow, hb1, hz1⟩
  subst he
  have HR1 := Lib.hid hrow
  have HB1 := Lib.hid hb1
  have HZ1 := Lib.hid hz1
  have HBu := Lib.hid (show Below w1.heap.size w1 (w1.alloc (.cells (cells6 (ib (-1), ib 1)).toArray 41)) from (Below.refl _ _).alloc (Nat.le_refl _) _)
  have HSm := Lib.hid (sameRanges_parts (w := w1.alloc (.cells (cells6 (ib (-1), ib 1)).toArray 41)) (P := fun b => b < (w1.alloc (.cells (cells6 (ib (-1), ib 1)).toArray 41)).heap.size)
    (((hrow.keep HBu.out (fun b h => h.elim)).wide (Q := fun b => b < (w1.alloc (.cells (cells6 (ib (-1), ib 1)).toArray 41)).heap.size) (fun b h => h.elim)).set (fun b _ h => h))
    (((RRow.built (w := w1) (P := fun _ => False) (at_all w1 _) (fun b h => h.elim)).wide (Q := fun b => b < (w1.alloc (.cells (cells6 (ib (-1), ib 1)).toArray 41)).heap.size) (fun b h => h.elim)).set (fun b _ h => h))
    (fun b h => h) rfl (fun k p q hp hq => by
      unfold allP at hp
      rw [hp] at hq
      injection hq with hq
      subst hq
      exact ⟨⟨rfl, rfl, rfl⟩, ⟨rfl, rfl, rfl⟩⟩))
  simp only [ib, cells6_eq] at HBu HSm
  clear hrow hb1 hz1 HA
  go_wp2_with fail
  (with_reducible refine HSm.out.mono ?_)
  rintro e w3 ⟨he, hb3⟩
  subst he
  have HB3 := Lib.hid (HBu.out.trans (hb3.mono HBu.out.size))
  clear hb3 HSm HBu
  obtain ⟨z3, hz3⟩ : ∃ z : Int, z = 3 := ⟨_, rfl⟩
  have HTo := Lib.hid (show Calls Try.prog 27 #[.int .i64 3, .int .i64 3] w3 (RangePost z3 z3 w3) by rw [hz3]; exact to_ok 3 3 (by omega) (by omega) (by omega) (by omega))
  clear hz3
  go_wp2_with fail
  (with_reducible refine HTo.out.mono ?_)
  rintro e w4 ⟨A5, A6, c5, c6, he, hat, hb4⟩
  simp only [rgV, tR, cells6, nb, Bd.vals, List.cons_append, List.nil_append] at he
  subst he
  have HB4 := Lib.hid (HB3.out.trans (hb4.mono HB3.out.size))
  have HR4 := Lib.hid (HR1.out.keep HB4.out (fun b h => h.elim))
  obtain ⟨i0, i1, i2, i3, i4, i5⟩ := HR4.out.cells_at (k := 0) rfl
  have f0 := HR4.out.frozen 0
  have f1 := HR4.out.frozen 1
  have f2 := HR4.out.frozen 2
  have f3 := HR4.out.frozen 3
  have f4 := HR4.out.frozen 4
  have f5 := HR4.out.frozen 5
  have hlt : B < w4.heap.size := Nat.lt_of_lt_of_le HZ1.out HB4.out.size
  (try simp only [Nat.zero_mul, Nat.zero_add] at i0 i1 i2 i3 i4 i5)
  have HBe := Lib.hid (show Below B w w4 from HB1.out.trans (HB4.out.mono (Nat.le_of_lt HZ1.out)))
  clear hat hb4 HTo HB3 HR1
  go_wp2_with fail
  exact bodyPost_ret (v := .bool true) (by simp [results, Try.results14, go_sem]) rfl ⟨rfl, (((((HBe.out.setCell (Nat.le_refl _) _).setCell (Nat.le_refl _) _).setCell (Nat.le_refl _) _).setCell (Nat.le_refl _) _).setCell (Nat.le_refl _) _).setCell (Nat.le_refl _) _⟩
/-! ### fddom.Of -/
set_option maxRecDepth 100000 in
set_option maxHeartbeats 4000000 in
theorem FOf_any {w : World} {P : Nat → Prop} {g g' : Bool} {A A' : Option Addr} {n n' c c' : Nat} {l l' : List Nat} (h1 : LimP w P A n c l) (h2 : LimP w P A' n' c' l') (hP : ∀ b, P b → b < w.heap.size) (hn : n ≤ 33554432) (hn' : n' ≤ 33554432) :
    Calls Try.prog 13 #[.agg #[.bool g, .slice A n c], .agg #[.bool g', .slice A' n' c']] w (NormT w [((⟨0, g, A, n, c, l⟩ : Bd), (⟨0, g', A', n', c', l'⟩ : Bd))]) := by
  obtain ⟨B, hB⟩ : ∃ B, w.heap.size = B := ⟨_, rfl⟩
  have HB := Lib.hid hB
  have HI1 := Lib.hid (IBox.of_alloc (w := w) (x := g) (y := .slice A n c))
  have HBa := Lib.hid (show Below w.heap.size w (w.alloc (.cells #[.bool g, .slice A n c] 25)) from (Below.refl _ _).alloc (Nat.le_refl _) _)
  have HI2 := Lib.hid (IBox.of_alloc (w := w.alloc (.cells #[.bool g, .slice A n c] 25)) (x := g') (y := .slice A' n' c'))
  rw [World.size_alloc] at HI2
  have HBb := Lib.hid (show Below (w.heap.size + 1) (w.alloc (.cells #[.bool g, .slice A n c] 25)) ((w.alloc (.cells #[.bool g, .slice A n c] 25)).alloc (.cells #[.bool g', .slice A' n' c'] 25)) from (Below.refl _ _).alloc (by simp) _)
  have HI3 := Lib.hid (HI1.out.below (HBb.out.mono (by simp)))
  have HBt := Lib.hid (show Below w.heap.size w ((w.alloc (.cells #[.bool g, .slice A n c] 25)).alloc (.cells #[.bool g', .slice A' n' c'] 25)) from HBa.out.trans (HBb.out.mono (by omega)))
  have hq2 : Rg.At ((w.alloc (.cells #[.bool g, .slice A n c] 25)).alloc (.cells #[.bool g', .slice A' n' c'] 25)) P ((⟨0, g, A, n, c, l⟩ : Bd), (⟨0, g', A', n', c', l'⟩ : Bd)) :=
    ⟨⟨h1.keep (fun b hb => ⟨hb, HBt.out.block b (hP b hb)⟩), by show (-9223372036854775808 : Int) ≤ 0; omega, by show (0 : Int) ≤ 9223372036854775807; omega⟩, ⟨h2.keep (fun b hb => ⟨hb, HBt.out.block b (hP b hb)⟩), by show (-9223372036854775808 : Int) ≤ 0; omega, by show (0 : Int) ≤ 9223372036854775807; omega⟩⟩
  have hP2 : ∀ b, P b → b < ((w.alloc (.cells #[.bool g, .slice A n c] 25)).alloc (.cells #[.bool g', .slice A' n' c'] 25)).heap.size := fun b hb => Nat.lt_of_lt_of_le (hP b hb) HBt.out.size
  have HR := Lib.hid (RRow.built hq2 hP2)
  have HBu := Lib.hid (show Below w.heap.size w (((w.alloc (.cells #[.bool g, .slice A n c] 25)).alloc (.cells #[.bool g', .slice A' n' c'] 25)).alloc (.cells (cells6 ((⟨0, g, A, n, c, l⟩ : Bd), (⟨0, g', A', n', c', l'⟩ : Bd))).toArray 41)) from HBt.out.alloc HBt.out.size _)
  have hz3 : (((w.alloc (.cells #[.bool g, .slice A n c] 25)).alloc (.cells #[.bool g', .slice A' n' c'] 25)).alloc (.cells (cells6 ((⟨0, g, A, n, c, l⟩ : Bd), (⟨0, g', A', n', c', l'⟩ : Bd))).toArray 41)).heap.size = w.heap.size + 3 := by simp
  have HNo := Lib.hid (Norm_t (P := fun b => b < w.heap.size + 3) ((HR.out.wide (Q := fun b => b < w.heap.size + 3) (fun b hb => by have := hP b hb; omega)).set (fun b _ h => by rw [hz3] at h; exact h)) (fun b hb => by rw [hz3]; exact hb) (fun p hp => by
    rw [List.mem_singleton.1 hp]
    exact ⟨fun _ => hn, fun _ => hn'⟩) (by omega))
  have HF := Lib.hid (fun e w' (h : NormTB w.heap.size w [((⟨0, g, A, n, c, l⟩ : Bd), (⟨0, g', A', n', c', l'⟩ : Bd))] e w') => show NormT w [((⟨0, g, A, n, c, l⟩ : Bd), (⟨0, g', A', n', c', l'⟩ : Bd))] e w' from h)
  have hsz2 : ((w.alloc (.cells #[.bool g, .slice A n c] 25)).alloc (.cells #[.bool g', .slice A' n' c'] 25)).heap.size = w.heap.size + 2 := by simp
  rw [hsz2] at HNo
  simp only [cells6_eq] at HNo HBu hz3
  unfold NormT at HNo ⊢
  rw [hz3] at HNo
  generalize [((⟨0, g, A, n, c, l⟩ : Bd), (⟨0, g', A', n', c', l'⟩ : Bd))] = ps at *
  obtain ⟨x0, x1⟩ := HI3.out.cells
  obtain ⟨y0, y1⟩ := HI2.out.cells
  clear h1 h2 hP hn hn' hB hq2 hP2 HR HI1 HI2 HI3 HBa HBb HBt HF hz3
  go_enter Try.func13, Try.ntmps13
  go_wp2_with fail
  (with_reducible refine HNo.out.mono ?_)
  rintro e w4 ⟨hb4, hcs⟩
  have HB4 := Lib.hid (show Below w.heap.size w w4 from HBu.out.trans (hb4.mono (by omega)))
  rcases hcs with ⟨he, k1⟩ | ⟨he, k1, k2⟩ | ⟨A1, n1, c1, qs, he, k1, k2, k3⟩
  · subst he
    have key : NormTB w.heap.size w ps (.returned (.tuple #[.slice none 0 0, .int .i64 10])) w4 := ⟨HB4.out, .inl ⟨rfl, k1⟩⟩
    clear hb4 k1
    go_wp2_with fail
    exact bodyPost_ret (v := .tuple #[.slice none 0 0, .int .i64 10]) (by simp [results, Try.results13, go_sem]) rfl key
  · subst he
    have key : NormTB w.heap.size w ps (.returned (.tuple #[.slice none 0 0, .int .i64 90])) w4 := ⟨HB4.out, .inr (.inl ⟨rfl, k1, k2⟩)⟩
    clear hb4 k1 k2
    go_wp2_with fail
    exact bodyPost_ret (v := .tuple #[.slice none 0 0, .int .i64 90]) (by simp [results, Try.results13, go_sem]) rfl key
  · subst he
    have key : NormTB w.heap.size w ps (.returned (.tuple #[.slice A1 n1 c1, .int .i64 0])) w4 := ⟨HB4.out, .inr (.inr ⟨A1, n1, c1, qs, rfl, k1, (k2.lower (by omega)).wide (fun b hb => ⟨⟨by have := hb.1.1; omega, hb.1.2⟩, hb.2⟩), k3⟩)⟩
    clear hb4 k1 k2 k3
    go_wp2_with fail
    exact bodyPost_ret (v := .tuple #[.slice A1 n1 c1, .int .i64 0]) (by simp [results, Try.results13, go_sem]) rfl key
end Go.Proofs.Ytpikjceodmepiaa


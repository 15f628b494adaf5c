import Derived.Test.YtpikjceodmepiaaGreatDoorYwb
set_option linter.unusedVariables false
set_option linter.unusedSimpArgs false
namespace Go.Proofs.YtpikjceodmepiaaGreatDoor
open Go.RowKit Hb Hf
set_option linter.unusedVariables false
set_option linter.unusedSimpArgs false
attribute [local go_sem ↓] Go.wp_at_zero Go.wp_at_succ
/-! ### small ranges, and slices of ranges that have been built -/
abbrev tR (lo hi : Int) (A A' : Option Addr) (c c' : Nat) : Rg := (nb lo A c, nb hi A' c')
def RangePost (lo hi : Int) (w : World) (e : Ending) (w' : World) : Prop :=
  ∃ A A' c c', e = .returned (rgV (tR lo hi A A' c c')) ∧ Rg.At w' (Fr w.heap.size w') (tR lo hi A A' c c') ∧ Below w.heap.size w w'
theorem Rg.At.lift {w w' : World} {B : Nat} {p : Rg} (h : Rg.At w (Fr B w) p) (hb : Below w.heap.size w w') : Rg.At w' (Fr B w') p :=
  h.keep fun x hx => ⟨⟨hx.1, Nat.lt_of_lt_of_le hx.2 hb.size⟩, hb.block x hx.2⟩
theorem Rg.At.low {w : World} {B B' : Nat} {p : Rg} (h : Rg.At w (Fr B w) p) (hB : B' ≤ B) : Rg.At w (Fr B' w) p :=
  h.keep fun x hx => ⟨⟨Nat.le_trans hB hx.1, hx.2⟩, rfl⟩
theorem Bd.At.lift {w w' : World} {B : Nat} {p : Bd} (h : p.At w (Fr B w)) (hb : Below w.heap.size w w') : p.At w' (Fr B w') :=
  h.keep fun x hx => ⟨⟨hx.1, Nat.lt_of_lt_of_le hx.2 hb.size⟩, hb.block x hx.2⟩
set_option maxHeartbeats 1000000 in
theorem to_ok (lo hi : Int) {w : World} (h1 : -9223372036854775808 ≤ lo) (h2 : lo ≤ 9223372036854775807) (h3 : -9223372036854775808 ≤ hi) (h4 : hi ≤ 9223372036854775807) :
    Calls Tryz.prog 25 #[.int .i64 lo, .int .i64 hi] w (RangePost lo hi w) := by
  have HF1 := Lib.hid (fun w1 => from_any lo w1 h1 h2)
  have HF2 := Lib.hid (fun w1 => from_any hi w1 h3 h4)
  have HX := Lib.hid (RBox.new w (ib 0, ib 0))
  have HB := Lib.hid ((Below.refl w.heap.size w).alloc (Nat.le_refl _) (.cells (cells6 (ib 0, ib 0)).toArray 69))
  simp only [cells6_eq, ib] at HX HB
  go_enter Tryz.func25, Tryz.ntmps25
  go_wp2_with fail
  (with_reducible refine (HF1.out _).mono ?_)
  rintro e u1 ⟨v, rfl, hr1, hb1⟩
  obtain ⟨A1, c1, rfl, hat1⟩ := hr1.nb
  go_wp2_with fail
  (with_reducible refine (HF2.out _).mono ?_)
  rintro e u2 ⟨v, rfl, hr2, hb2⟩
  obtain ⟨A2, c2, rfl, hat2⟩ := hr2.nb
  have hz1 := hb1.size
  have hz0 := HB.out.size
  have hb3 := hb1.trans (hb2.mono hb1.size)
  have HX2 := Lib.hid (HX.out.below hb3)
  have HBw := Lib.hid (HB.out.trans (hb3.mono hz0))
  obtain ⟨f0, f1, f2, f3, f4, f5⟩ := HX2.out.frozens
  obtain ⟨x0, x1, x2, x3, x4, x5⟩ := HX2.out.cells
  have HQ := Lib.hid (show Rg.At u2 (fun x => w.heap.size + 1 ≤ x ∧ x < u2.heap.size) (tR lo hi A1 A2 c1 c2) from
    ⟨hat1.keep (fun x hx => ⟨⟨by have := hx.1; simp at this; omega, by have := hx.2; have := hb2.size; omega⟩, hb2.block x hx.2⟩), hat2.keep (fun x hx => ⟨⟨by have := hx.1; simp at hz1; omega, hx.2⟩, rfl⟩)⟩)
  have HS := Lib.hid (HX2.out.set6 (tR lo hi A1 A2 c1 c2))
  simp only [nb] at HS
  clear hb1 hb2 hb3 hr1 hr2 hat1 hat2 hz1 HF1 HF2
  go_wp2_with fail
  have hz9 := HS.out.2.size
  generalize (((((u2.setCell ⟨w.heap.size, 0, none⟩ (.int .i64 0)).setCell ⟨w.heap.size, 1, none⟩ (.bool (decide (lo < 0)))).setCell ⟨w.heap.size, 2, none⟩ (.slice A1 (digs W lo.natAbs).length c1)).setCell ⟨w.heap.size, 3, none⟩ (.int .i64 0)).setCell ⟨w.heap.size, 4, none⟩ (.bool (decide (hi < 0)))).setCell ⟨w.heap.size, 5, none⟩ (.slice A2 (digs W hi.natAbs).length c2) = u3 at *
  obtain ⟨r0, r1, r2, r3, r4, r5⟩ := HS.out.1.cells
  refine bodyPost_ret (v := rgV (tR lo hi A1 A2 c1 c2)) (by simp [results, Tryz.results25, go_sem, r0, r1, r2, r3, r4, r5]; rfl) rfl ⟨A1, A2, c1, c2, rfl, ?_, HBw.out.grown HS.out.2 HBw.out.size (fun j e => by injection e with e; omega)⟩
  exact HQ.out.keep fun x hx => ⟨⟨by have := hx.1; omega, Nat.lt_of_lt_of_le hx.2 hz9⟩, HS.out.2.block x hx.2 (fun e => by injection e with e; have := hx.1; omega)⟩
/-- a slice of ranges that has been built -/
theorem SetP.built {w : World} {B : Nat} {ps : List Rg} (hB : B ≤ w.heap.size) (hk : ∀ p ∈ ps, Rg.At w (Fr B w) p) (hl : ps.length ≤ 1000) :
    SetP (w.alloc (.cells (fl6 ps).toArray 69)) (Fr B (w.alloc (.cells (fl6 ps).toArray 69))) (some ⟨w.heap.size, 0, none⟩) ps.length ps.length ps := by
  have hb : Below w.heap.size w (w.alloc (.cells (fl6 ps).toArray 69)) := (Below.refl _ _).alloc (Nat.le_refl _) _
  refine ⟨⟨rfl, Nat.le_refl _, by simp only [maxLen]; omega, fun _ => ⟨w.heap.size, 0, rfl, ⟨hB, by simp⟩, fun i v hi => ?_⟩⟩, fun p hp => (hk p hp).lift hb⟩
  have h := heap_alloc_new w (.cells (fl6 ps).toArray 69)
  rw [Nat.zero_add, cell_of_row _ _ _ _ _ (0, 0) h]
  simpa using hi
theorem szE_small {z : Int} (h : z.natAbs < 4294967296) : szE (.num z) ≤ 1 := digs_length_le (k := 1) (by decide) (by rw [Nat.pow_one]; exact h)
end Go.Proofs.YtpikjceodmepiaaGreatDoor


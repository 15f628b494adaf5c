import Derived.Test.YtpikjceodmepiaaGreatDoorYrb
import Derived.Test.YtpikjceodmepiaaGreatDoorYyb
set_option linter.unusedVariables false
set_option linter.unusedSimpArgs false
namespace Go.Proofs.YtpikjceodmepiaaGreatDoor
open Go.RowKit Hb Hf
set_option linter.unusedVariables false
set_option linter.unusedSimpArgs false
attribute [local go_sem ↓] Go.wp_at_zero Go.wp_at_succ
/-! ### the same sets stand alike -/
/-- two normal ends that are the same have the same cells but for where their limbs lie -/
theorem Bd.Nrm.same {a b : Bd} (ha : a.Nrm) (hb : b.Nrm) (h : a.ed = b.ed) : a.i = b.i ∧ a.g = b.g ∧ a.l = b.l := by
  obtain ⟨ta, oa, da⟩ := ha
  obtain ⟨tb, ob, db⟩ := hb
  have key : a.i = b.i ∧ (a.i = 0 → a.z = b.z) := by
    rcases ta with t | t | t <;> rcases tb with s | s | s
    all_goals
      first | rw [Bd.ed_lo (b := a) (by omega)] at h | rw [Bd.ed_zero (b := a) t] at h | rw [Bd.ed_hi (b := a) (by omega)] at h
      first | rw [Bd.ed_lo (b := b) (by omega)] at h | rw [Bd.ed_zero (b := b) s] at h | rw [Bd.ed_hi (b := b) (by omega)] at h
      first
        | cases h; done
        | (refine ⟨by omega, fun h0 => ?_⟩; first | omega | (injection h))
  obtain ⟨k1, k2⟩ := key
  by_cases h0 : a.i = 0
  · rw [da.1, da.2, db.1, db.2, k2 h0]; exact ⟨k1, rfl, rfl⟩
  · rw [(oa h0).1, (oa h0).2, (ob (by omega)).1, (ob (by omega)).2]; exact ⟨k1, rfl, rfl⟩
set_option maxHeartbeats 1000000 in
theorem sameBound_true {a b : Bd} {P : Nat → Prop} {w : World} (ha : a.At w P) (hb : b.At w P) (hP : ∀ x, P x → x < w.heap.size) (h1 : a.i = b.i) (h2 : a.g = b.g) (h3 : a.l = b.l) :
    Calls Tryz.prog 68 #[a.v, b.v] w fun e w' => e = .returned (.bool true) ∧ Below w.heap.size w w' := by
  have HG := Lib.hid (((Below.refl w.heap.size w).alloc (Nat.le_refl _) (.cells a.vals.toArray 67)).alloc (by simp) (.cells b.vals.toArray 67))
  have r1 := ha.r1
  have r2 := ha.r2
  have hl : a.n = b.n := by rw [← ha.lim.len, ← hb.lim.len, h3]
  have hb2 : SlU w w.heap.size b.A a.n b.c a.l := by rw [h3, hl]; exact hb.lim.sl hP
  have HC := Lib.hid (fun w1 (k1 : Below w.heap.size w w1) => rsame_true a.g ((ha.lim.sl hP).below (C := w.heap.size) k1 (Nat.le_refl _)) (hb2.below (C := w.heap.size) k1 (Nat.le_refl _)) k1.size k1.size)
  have e1 := EBox.new w a
  have e2 := EBox.new (w.alloc (.cells a.vals.toArray 67)) b
  have e3 := (EBox.below e1 (w' := (w.alloc (.cells a.vals.toArray 67)).alloc (.cells b.vals.toArray 67)) ((Below.refl _ _).alloc (Nat.le_refl _) _))
  obtain ⟨ai, ag, aA, an, ac, al⟩ := a
  obtain ⟨bi, bg, bA, bn, bc, bl⟩ := b
  simp only at h1 h2 h3 hl r1 r2
  subst h1 h2 h3 hl
  obtain ⟨x0, x1, x2⟩ := e3.cells
  obtain ⟨y0, y1, y2⟩ := e2.cells
  rw [World.size_alloc] at y0 y1 y2
  simp only [Bd.v, Bd.vals] at *
  clear ha hb hb2 hP e1 e2 e3
  go_enter Tryz.func68, Tryz.ntmps68
  go_wp2_with (go_at_call 93; (with_reducible refine (HC.out _ HG.out).mono ?_); rintro e w1 ⟨rfl, hg1⟩)
  go_ret
  exact ⟨rfl, HG.out.trans (hg1.mono HG.out.size)⟩
end Go.Proofs.YtpikjceodmepiaaGreatDoor


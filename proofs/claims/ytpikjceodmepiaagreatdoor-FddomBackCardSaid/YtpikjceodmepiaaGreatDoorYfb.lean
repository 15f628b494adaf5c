import Derived.Test.YtpikjceodmepiaaGreatDoorYeb
import Derived.Test.YtpikjceodmepiaaGreatDoorQallb
set_option linter.unusedVariables false
set_option linter.unusedSimpArgs false
namespace Go.Proofs.YtpikjceodmepiaaGreatDoor
open Go.RowKit Hb Hf
set_option linter.unusedVariables false
set_option linter.unusedSimpArgs false
attribute [local go_sem ↓] Go.wp_at_zero Go.wp_at_succ
/-! ### step -/
/-- the limbs that an end takes -/
def szE : Ed → Nat
  | .num z => (digs W z.natAbs).length
  | _ => 0
theorem Bd.Nrm.szE {b : Bd} (h : b.Nrm) (hl : b.l.length = b.n) : b.n = szE b.ed := by
  obtain ⟨t, ho, hd⟩ := h
  rcases t with t | t | t
  · rw [Bd.ed_lo (by omega), ← hl, (ho (by omega)).1]; rfl
  · rw [Bd.ed_zero t, ← hl, hd.1]; rfl
  · rw [Bd.ed_hi (by omega), ← hl, (ho (by omega)).1]; rfl
theorem digs_step {z k : Int} {m : Nat} (h : (digs W z.natAbs).length ≤ m) (hk : k = 1 ∨ k = -1) : (digs W (z + k).natAbs).length ≤ m + 1 := by
  have h1 := lt_of_digs_length (b := W) (by decide) h
  refine digs_length_le (by decide) ?_
  have h2 : (z + k).natAbs ≤ z.natAbs + 1 := by omega
  have h3 : W ^ m * 1 < W ^ m * W := Nat.mul_lt_mul_of_pos_left (by decide) (Nat.pow_pos (by decide))
  rw [Nat.pow_succ]
  omega
theorem szE_step {e : Ed} {k : Int} {m : Nat} (h : szE e ≤ m) (hk : k = 1 ∨ k = -1) : szE (shE k e) ≤ m + 1 := by
  cases e with
  | num z => exact digs_step h hk
  | lo => exact Nat.zero_le _
  | hi => exact Nat.zero_le _
/-- blocks that are P, and the call's own -/
abbrev Or (P : Nat → Prop) (B : Nat) (w : World) : Nat → Prop := fun x => P x ∨ (B ≤ x ∧ x < w.heap.size)
def StepFr (w : World) (b : Bd) (k : Int) (en : Ending) (w' : World) : Prop :=
  ∃ d : Bd, en = .returned d.v ∧ d.At w' (Fr w.heap.size w') ∧ d.Nrm ∧ d.ed = shE k b.ed ∧ Below w.heap.size w w'
theorem Bd.At.empty {w w' : World} {P Q : Nat → Prop} {b : Bd} (h : b.At w P) (hl : b.l = []) : b.At w' Q := ⟨⟨h.lim.len, h.lim.cap, h.lim.max, h.lim.dig, fun e => absurd hl e⟩, h.r1, h.r2⟩
def StepPost (w : World) (P : Nat → Prop) (b : Bd) (k : Int) (en : Ending) (w' : World) : Prop :=
  ∃ d : Bd, en = .returned d.v ∧ d.At w' (Or P w.heap.size w') ∧ d.Nrm ∧ d.ed = shE k b.ed ∧ Below w.heap.size w w'
set_option maxRecDepth 100000 in
set_option maxHeartbeats 2000000 in
theorem step_fr {b : Bd} {P : Nat → Prop} {w : World} (k : Int) (hk : k = 1 ∨ k = -1) (hb : b.At w P) (hP : ∀ x, P x → x < w.heap.size) (ht : b.Tri) (hn : b.i ≠ 0 → b.Nrm) (hs : b.n ≤ 33554432) :
    Calls Tryz.prog 64 #[b.v, .int .i64 k] w (StepFr w b k) := by
  have hG := ((Below.refl w.heap.size w).alloc (Nat.le_refl _) (.cells b.vals.toArray 67)).alloc (by simp) (.cells (ib 0).vals.toArray 67)
  have e1 := EBox.new w b
  have e2 := EBox.new (w.alloc (.cells b.vals.toArray 67)) (ib 0)
  have e3 := (EBox.below e1 (w' := (w.alloc (.cells b.vals.toArray 67)).alloc (.cells (ib 0).vals.toArray 67)) ((Below.refl _ _).alloc (Nat.le_refl _) _))
  rw [World.size_alloc] at e2
  have HE := Lib.hid (And.intro e3 e2)
  have HG := Lib.hid hG
  have HAt := Lib.hid hb
  have HP := Lib.hid hP
  have HN := Lib.hid hn
  obtain ⟨x0, x1, x2⟩ := e3.cells
  obtain ⟨y0, y1, y2⟩ := e2.cells
  obtain ⟨f0, f1, f2⟩ := e2.frozens
  have ht' := ht
  unfold Bd.Tri at ht'
  by_cases h0 : b.i = 0
  · have HSl := Lib.hid (hb.lim.sl hP)
    have HD := Lib.hid (show shE k b.ed = .num (ival b.g b.l + k) by rw [Bd.ed_zero h0]; rfl)
    obtain ⟨bi, bg, bA, bn, bc, bl⟩ := b
    simp only at h0
    subst h0
    simp only [Bd.v, Bd.vals] at *
    have HF := Lib.hid (fun w1 => from_any k w1 (by omega) (by omega))
    have hkl : (digs W k.natAbs).length ≤ 33554432 := Nat.le_trans (digs_length_le (k := 1) (by decide) (by rw [Nat.pow_one]; show k.natAbs < 4294967296; omega)) (by omega)
    have HPl := Lib.hid (fun w1 (h1 : Below w.heap.size w w1) B2 A2 c2 (ho : OwnU w1 B2 A2 (digs W k.natAbs).length c2 (u32s (digs W k.natAbs))) => plus_any bg (decide (k < 0)) (HSl.out.below h1 (Nat.le_refl _)) (ho.sl (dig_digs (by decide) _) rfl) hs hkl h1.size (Nat.le_refl _))
    clear hb hP ht ht' hn hs hG e1 e2 e3 x0 x1 x2 y0 y1 y2 f0 f1 f2
    rw [ival_digs] at HPl
    generalize ival bg bl = Z at *
    go_enter Tryz.func64, Tryz.ntmps64
    go_upto_region 3 with fail
    refine wp_region_U 6 (by kernel_rfl) (fun z0 K0 hs0 => ?_)
    refine tkW 0 (v := ?tv0) K0 rfl (by kernel_rfl) ?tq0 rfl (fun z5 hS => ?ty0) ?_
    case ty0 => go_simp; rfl
    case tq0 => exact fun _ _ _ h => h
    refine tkW 1 (v := ?tv1) K0 rfl (by kernel_rfl) ?tq1 rfl (fun z5 hS => ?ty1) ?_
    case ty1 => obtain ⟨q0, q1, q2⟩ := (HE.out.1.below hS).cells; go_simp; rfl
    case tq1 => exact fun _ _ _ h => h
    refine tkW 2 (v := ?tv2) K0 rfl (by kernel_rfl) ?tq2 rfl (fun z5 hS => ?ty2) ?_
    case ty2 => go_simp; rfl
    case tq2 => exact fun _ _ _ h => h
    refine wpAnyW_one (i := 3) (by kernel_rfl) rfl (fun K hK => ?_)
    go_simp
    (with_reducible refine (HF.out _).mono ?_)
    rintro e z1 ⟨v, rfl, ⟨A1, c1, rfl, ho1⟩, hb1⟩
    have K1 := K0.trans (hb1.mono K0.size)
    refine hK.out _ _ (fun _ => K1) ?_
    refine wpAnyW_one (i := 4) (by kernel_rfl) rfl (fun K hK => ?_)
    go_simp
    (with_reducible refine (HPl.out _ (HG.out.trans (K1.mono HG.out.size)) _ _ _ ho1).mono ?_)
    rintro e z2 ⟨v, rfl, hr, hb2⟩
    obtain ⟨A2, c2, rfl, hat⟩ := hr.nb
    have K2 := K1.trans (hb2.mono K1.size)
    refine hK.out _ _ (fun _ => K2) ?_
    have HX := Lib.hid (HE.out.2.below K2)
    obtain ⟨y0, y1, y2⟩ := HX.out.cells
    obtain ⟨f0, f1, f2⟩ := HX.out.frozens
    refine tkW 5 (v := ?tv5) K2 rfl (by kernel_rfl) ?tq5 rfl (fun z5 hS => ?ty5) ?_
    case ty5 => go_simp; rfl
    case tq5 => exact fun _ _ _ h => h
    refine wpAnyW_one (i := 6) (by kernel_rfl) rfl (fun K hK => ?_)
    go_simp
    refine hK.out _ _ (fun h => absurd h (by simp)) ?_
    refine wpAnyW_done (by kernel_rfl) ?_ _
    have HS := Lib.hid (HX.out.set3 (nb (Z + k) A2 c2))
    have HZ := Lib.hid (show w.heap.size + 1 + 1 ≤ z1.heap.size ∧ z1.heap.size ≤ z2.heap.size from ⟨by have := K1.size; simp at this; omega, hb2.size⟩)
    have HBw := Lib.hid (HG.out.trans (K2.mono HG.out.size))
    have HA := Lib.hid hat
    simp only [nb] at HS
    clear K0 K1 K2 hb1 hb2 ho1 hr hat HE HX HPl HF hs0 hkl
    generalize ((z2.setCell ⟨w.heap.size + 1, 0, none⟩ (.int .i64 0)).setCell ⟨w.heap.size + 1, 1, none⟩ (.bool (decide (Z + k < 0)))).setCell ⟨w.heap.size + 1, 2, none⟩ (.slice A2 (digs W (Z + k).natAbs).length c2) = w6 at *
    obtain ⟨r0, r1, r2⟩ := HS.out.1.cells
    go_wp2
    have hz := HS.out.2.size
    refine bodyPost_ret (v := (nb (Z + k) A2 c2).v) (by simp [results, Tryz.results64, go_sem, r0, r1, r2]; rfl) rfl ⟨nb (Z + k) A2 c2, rfl, ?_, nb_nrm _ _ _, by rw [HD.out, nb_ed], HBw.out.grown HS.out.2 HBw.out.size (fun j e => by injection e with e; omega)⟩
    exact HA.out.keep fun x hx => ⟨⟨by have := hx.1; have := HZ.out; omega, Nat.lt_of_lt_of_le hx.2 hz⟩, HS.out.2.block x hx.2 (fun e => by injection e with e; have := hx.1; have := HZ.out; omega)⟩
  · have HD := Lib.hid (show shE k b.ed = b.ed by
      rcases ht' with h | h | h
      · rw [Bd.ed_lo (by omega)]; rfl
      · exact absurd h h0
      · rw [Bd.ed_hi (by omega)]; rfl)
    have HNr := Lib.hid (hn h0)
    have HI0 := Lib.hid h0
    obtain ⟨bi, bg, bA, bn, bc, bl⟩ := b
    have hz : (bi == 0) = false := beq_eq_false_iff_ne.2 h0
    have q11 : -1 ≤ bi := by simp only at ht'; omega
    have q12 : bi ≤ 1 := by simp only at ht'; omega
    have HV := Lib.hid (Eq.refl (Bd.v ⟨bi, bg, bA, bn, bc, bl⟩))
    simp only [Bd.v, Bd.vals] at *
    clear hb hP ht ht' hn hs hG e1 e2 e3 h0
    go_enter Tryz.func64, Tryz.ntmps64
    go_wp2
    refine bodyPost_ret (v := Bd.v ⟨bi, bg, bA, bn, bc, bl⟩) (by simp [results, Tryz.results64, go_sem]; rfl) rfl ⟨⟨bi, bg, bA, bn, bc, bl⟩, rfl, ?_, HNr.out, HD.out.symm, ((Below.refl w.heap.size w).alloc (Nat.le_refl _) _).alloc (by simp) _⟩
    exact HAt.out.empty (HNr.out.out HI0.out).1
theorem step_any {b : Bd} {P : Nat → Prop} {w : World} (k : Int) (hk : k = 1 ∨ k = -1) (hb : b.At w P) (hP : ∀ x, P x → x < w.heap.size) (ht : b.Tri) (hn : b.i ≠ 0 → b.Nrm) (hs : b.n ≤ 33554432) :
    Calls Tryz.prog 64 #[b.v, .int .i64 k] w (StepPost w P b k) :=
  (step_fr k hk hb hP ht hn hs).mono fun _ _ ⟨d, h1, h2, h3⟩ => ⟨d, h1, h2.wide fun x hx => .inr hx, h3⟩
end Go.Proofs.YtpikjceodmepiaaGreatDoor


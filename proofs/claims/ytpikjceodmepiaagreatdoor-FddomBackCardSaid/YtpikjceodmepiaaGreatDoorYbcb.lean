import Derived.Sort.Grow
import Derived.Test.YtpikjceodmepiaaGreatDoorYab
set_option linter.unusedVariables false
set_option linter.unusedSimpArgs false
namespace Go.Proofs.YtpikjceodmepiaaGreatDoor
open Go.RowKit Hb Hf
set_option linter.unusedVariables false
set_option linter.unusedSimpArgs false
/-! ### comparing: nothing is changed; blocks and draws come behind -/
/-- w' is w with blocks behind it, and draws -/
structure Gr (w w' : World) : Prop where
  bel : Below w.heap.size w w'
  drw : w.drawn ≤ w'.drawn
theorem Gr.refl (w : World) : Gr w w := ⟨Below.refl _ _, Nat.le_refl _⟩
theorem Gr.trans {a b c : World} (h : Gr a b) (k : Gr b c) : Gr a c := ⟨h.bel.trans (k.bel.mono h.bel.size), Nat.le_trans h.drw k.drw⟩
theorem Gr.alloc {a b : World} (h : Gr a b) (o : Obj) : Gr a (b.alloc o) := ⟨h.bel.alloc h.bel.size o, h.drw⟩
theorem Gr.drew {a b : World} (h : Gr a b) : Gr a b.drew := ⟨h.bel.drew, Nat.le_trans h.drw (Nat.le_succ _)⟩
theorem Gr.of_dr {a b : World} (h : Dr a b) : Gr a b := by
  obtain ⟨k, rfl⟩ := h
  exact ⟨Dr.below ⟨k, rfl⟩ _, Nat.le_add_right _ _⟩
theorem Gr.lies {w w' : World} (h : Gr w w') : ∃ q os, w' = Sort.grow (w.drewN q) os := by
  refine ⟨w'.drawn - w.drawn, w'.heap.extract w.heap.size w'.heap.size, ?_⟩
  have e1 := h.bel.os
  have e2 := h.bel.tape
  have e3 := h.bel.output
  have e4 : w.drawn + (w'.drawn - w.drawn) = w'.drawn := by have := h.drw; omega
  have hz := h.bel.size
  have e5 : w.heap ++ w'.heap.extract w.heap.size w'.heap.size = w'.heap := by
    apply Array.ext
    · simp; omega
    · intro i h1 h2
      by_cases hi : i < w.heap.size
      · rw [Array.getElem_append_left hi]
        have := h.bel.block i hi
        rw [Array.getElem?_eq_getElem hi, Array.getElem?_eq_getElem h2] at this
        exact (Option.some.inj this).symm
      · rw [Array.getElem_append_right (by omega), Array.getElem_extract]
        congr 1
        omega
  obtain ⟨heap, tape, drawn, os, output⟩ := w'
  simp only at e1 e2 e3 e4 e5
  unfold Sort.grow World.drewN
  simp only [e1, e2, e3, e4, e5]
set_option maxHeartbeats 400000 in
theorem sign_gr (neg : Bool) {B : Nat} {A : Option Addr} {l : List Nat} {n c : Nat} {w : World} (hs : SlU w B A n c l) (hB : B ≤ w.heap.size) :
    Calls Tryz.prog 21 #[.agg #[.bool neg, .slice A n c]] w fun e w' => e = .returned (.int .i64 (ival neg l).sign) ∧ Gr w w' := by
  have HI := Lib.hid (fun w1 (hb : Below w.heap.size w w1) => trim_any (hs.below (C := w.heap.size) hb hB))
  have HB := Lib.hid (Gr.refl w)
  clear hs hB
  by_cases h0 : tlen l = 0
  · have HS := Lib.hid (show (ival neg l).sign = 0 by rw [ival_zero h0]; rfl)
    rw [h0] at HI
    clear h0
    go_enter Tryz.func21, Tryz.ntmps21
    go_wp2_with (go_at_call 55; refine (HI.out _ (HB.out.alloc _).bel).mono ?_; rintro e w' ⟨rfl, rfl⟩)
    go_ret
    exact ⟨ret_int HS.out.symm, HB.out.alloc _⟩
  · have h1 : 0 < tlen l := by omega
    have HS := Lib.hid (sign_neg h1)
    have HT := Lib.hid (sign_pos h1)
    generalize tlen l = k at HI h1 h0
    have hk : ((k : Int) == 0) = false := beq_eq_false_iff_ne.2 (by omega)
    cases neg
    all_goals
      go_enter Tryz.func21, Tryz.ntmps21
      go_wp2_with (go_at_call 55; refine (HI.out _ (HB.out.alloc _).bel).mono ?_; rintro e w' ⟨rfl, rfl⟩)
      go_ret
      exact ⟨ret_int (by first | exact HS.out.symm | exact HT.out.symm), HB.out.alloc _⟩
attribute [local go_sem ↓] Go.wp_at_zero Go.wp_at_succ
set_option maxHeartbeats 1000000 in
theorem Cmp_gr (na nb : Bool) {B B' : Nat} {A A' : Option Addr} {l m : List Nat} {n c n' c' : Nat} {w : World} (hs : SlU w B A n c l) (ht : SlU w B' A' n' c' m) (hB : B ≤ w.heap.size) (hB' : B' ≤ w.heap.size) :
    Calls Tryz.prog 30 #[.agg #[.bool na, .slice A n c], .agg #[.bool nb, .slice A' n' c']] w (fun e w' => e = .returned (.int .i64 (cmpZ (ival na l) (ival nb m))) ∧ Gr w w') := by
  have H1 := Lib.hid (fun w1 (hb : Gr w w1) => sign_gr na (hs.below (C := w.heap.size) hb.bel hB) (Nat.le_trans hB hb.bel.size))
  have H2 := Lib.hid (fun w1 (hb : Gr w w1) => sign_gr nb (ht.below (C := w.heap.size) hb.bel hB') (Nat.le_trans hB' hb.bel.size))
  have H3 := Lib.hid (fun w1 (hb : Gr w w1) => cmp_any (hs.below (C := w.heap.size) hb.bel hB) (ht.below (C := w.heap.size) hb.bel hB'))
  have H4 := Lib.hid (fun w1 (hb : Gr w w1) => cmp_any (ht.below (C := w.heap.size) hb.bel hB') (hs.below (C := w.heap.size) hb.bel hB))
  have hW : Gr w ((w.alloc (.cells #[.bool na, .slice A n c] 56)).alloc (.cells #[.bool nb, .slice A' n' c'] 56)) := ((Gr.refl _).alloc _).alloc _
  have HS := Lib.hid (fun C w2 (hb : Below C ((w.alloc (.cells #[.bool na, .slice A n c] 56)).alloc (.cells #[.bool nb, .slice A' n' c'] 56)).drew w2) (hC : w.heap.size + 2 ≤ C) => two_boxes hb (by rfl) hC)
  have HL := Lib.hid (fun h => cmpZ_lt (cmpZ_sign (a := ival na l) (b := ival nb m) h))
  have HG := Lib.hid (fun h => cmpZ_gt (cmpZ_sign (a := ival nb m) (b := ival na l) h))
  have HN := Lib.hid (show (ival na l).sign < 0 → (ival nb m).sign < 0 → cmpN (nv W m) (nv W l) = cmpZ (ival na l) (ival nb m) from fun h1 h2 => by rw [ival_of_sign_neg h1, ival_of_sign_neg h2, cmpN_Zneg])
  have HP := Lib.hid (show ¬ (ival na l).sign < 0 → ¬ (ival nb m).sign < 0 → cmpN (nv W l) (nv W m) = cmpZ (ival na l) (ival nb m) from fun h1 h2 => by rw [ival_of_sign_nonneg h1, ival_of_sign_nonneg h2, cmpN_Z])
  clear hs ht hB hB'
  generalize cmpZ (ival na l) (ival nb m) = Z at *
  generalize (ival na l).sign = s at *
  generalize (ival nb m).sign = t at *
  have key : ∃ b1 b2 b3 : Bool, decide (s < t) = b1 ∧ decide (t < s) = b2 ∧ decide (s < 0) = b3 := ⟨_, _, _, rfl, rfl, rfl⟩
  obtain ⟨b1, b2, b3, k1, k2, k3⟩ := key
  have HW := Lib.hid hW
  clear hW
  go_enter Tryz.func30, Tryz.ntmps30
  go_wp2_with fail
  go_region_held3 (fun w' => (w'.cell? ⟨w.heap.size, 0, none⟩ = some (.bool na) ∧ w'.cell? ⟨w.heap.size, 1, none⟩ = some (.slice A n c)) ∧ (w'.cell? ⟨w.heap.size + 1, 0, none⟩ = some (.bool nb) ∧ w'.cell? ⟨w.heap.size + 1, 1, none⟩ = some (.slice A' n' c')))
    (first | go_keep | exact HS.out _ _ (hb1.bel.trans (hb2.bel.mono hb1.bel.size)) (by simp) | exact HS.out _ _ hb1.bel (by simp))
    (first
      | (go_at_call 21; (with_reducible refine (H1.out _ ?_).mono ?_); exact HW.out.drew; rintro e w1 ⟨rfl, hb1⟩)
      | (go_at_call 21; (with_reducible refine (H2.out _ ?_).mono ?_); exact HW.out.drew.trans hb1; rintro e w2 ⟨rfl, hb2⟩))
  have hb3 := HW.out.drew.trans (hb1.trans hb2)
  clear hb1 hb2
  go_wp2_with fail
  · have h : b1 = true := by assumption
    go_ret
    exact ⟨ret_int (HL.out (of_decide_eq_true (k1.trans h))).symm, hb3⟩
  · have h : b2 = true := by assumption
    go_ret
    exact ⟨ret_int (HG.out (of_decide_eq_true (k2.trans h))).symm, hb3⟩
  · have g1 : b1 = false := by assumption
    have g2 : b2 = false := by assumption
    have g3 : b3 = true := by assumption
    have HV := Lib.hid (HN.out (of_decide_eq_true (k3.trans g3)) (by have := of_decide_eq_false (k1.trans g1); have := of_decide_eq_false (k2.trans g2); have := of_decide_eq_true (k3.trans g3); omega))
    refine (H4.out _ hb3).mono ?_; rintro e w3 ⟨rfl, hdr⟩
    go_wp2
    go_ret
    exact ⟨ret_int HV.out, hb3.trans (Gr.of_dr hdr)⟩
  · have g1 : b1 = false := by assumption
    have g2 : b2 = false := by assumption
    have g3 : b3 = false := by assumption
    have HV := Lib.hid (HP.out (by have := of_decide_eq_false (k3.trans g3); omega) (by have := of_decide_eq_false (k1.trans g1); have := of_decide_eq_false (k2.trans g2); have := of_decide_eq_false (k3.trans g3); omega))
    refine (H3.out _ hb3).mono ?_; rintro e w3 ⟨rfl, hdr⟩
    go_wp2
    go_ret
    exact ⟨ret_int HV.out, hb3.trans (Gr.of_dr hdr)⟩
/-! ### ends -/
def cmpB (a b : Bd) : Int := if a.i = 0 ∧ b.i = 0 then cmpZ a.z b.z else a.i - b.i
theorem ebox_cells {w w' : World} {g : Nat} {b : Bd} {C : Nat} (h : EBox w g b) (hb : Below C w w') (hC : g < C) : w'.cell? ⟨g, 0, none⟩ = some (.int .i64 b.i) ∧ w'.cell? ⟨g, 1, none⟩ = some (.bool b.g) ∧ w'.cell? ⟨g, 2, none⟩ = some (.slice b.A b.n b.c) :=
  EBox.cells (w := w') ((hb.block g hC).trans h)
set_option maxHeartbeats 1000000 in
theorem fcmp_any {a b : Bd} {P : Nat → Prop} {w : World} (ha : a.At w P) (hb : b.At w P) (hP : ∀ x, P x → x < w.heap.size) (ta : a.Tri) (tb : b.Tri) :
    Calls Tryz.prog 38 #[a.v, b.v] w fun e w' => e = .returned (.int .i64 (cmpB a b)) ∧ Gr w w' := by
  have HG := Lib.hid (((Gr.refl w).alloc (.cells a.vals.toArray 67)).alloc (.cells b.vals.toArray 67))
  have HC := Lib.hid (fun w1 (h1 : Gr w w1) => Cmp_gr a.g b.g ((ha.lim.sl hP).below (C := w.heap.size) h1.bel (Nat.le_refl _)) ((hb.lim.sl hP).below (C := w.heap.size) h1.bel (Nat.le_refl _)) h1.bel.size h1.bel.size)
  have e1 := EBox.new w a
  have e2 := EBox.new (w.alloc (.cells a.vals.toArray 67)) b
  have e3 := (EBox.below e1 (w' := (w.alloc (.cells a.vals.toArray 67)).alloc (.cells b.vals.toArray 67)) ((Below.refl _ _).alloc (Nat.le_refl _) _))
  obtain ⟨ai, ag, aA, an, ac, al⟩ := a
  obtain ⟨bi, bg, bA, bn, bc, bl⟩ := b
  obtain ⟨x0, x1, x2⟩ := e3.cells
  obtain ⟨y0, y1, y2⟩ := e2.cells
  rw [World.size_alloc] at y0 y1 y2
  have HV := Lib.hid (show cmpB ⟨ai, ag, aA, an, ac, al⟩ ⟨bi, bg, bA, bn, bc, bl⟩ = if ai = 0 ∧ bi = 0 then cmpZ (ival ag al) (ival bg bl) else ai - bi from rfl)
  have q1 : -1 ≤ ai ∧ ai ≤ 1 := by unfold Bd.Tri at ta; simp only at ta; omega
  have q2 : -1 ≤ bi ∧ bi ≤ 1 := by unfold Bd.Tri at tb; simp only at tb; omega
  obtain ⟨q11, q12⟩ := q1
  obtain ⟨q21, q22⟩ := q2
  simp only [Bd.v, Bd.vals] at *
  clear ha hb hP e1 e2 e3 ta tb
  by_cases h1 : ai = 0
  · subst h1
    by_cases h2 : bi = 0
    · subst h2
      rw [if_pos ⟨rfl, rfl⟩] at HV
      go_enter Tryz.func38, Tryz.ntmps38
      go_wp2_with (go_at_call 30; refine (HC.out _ HG.out).mono ?_; rintro e w1 ⟨rfl, hg1⟩)
      go_ret
      exact ⟨ret_int HV.out.symm, HG.out.trans hg1⟩
    · rw [if_neg (fun h => h2 h.2)] at HV
      have hz : (bi == 0) = false := beq_eq_false_iff_ne.2 h2
      clear h2
      go_enter Tryz.func38, Tryz.ntmps38
      go_wp2
      go_ret
      exact ⟨ret_int (by have := HV.out; omega), HG.out⟩
  · rw [if_neg (fun h => h1 h.1)] at HV
    have hz : (ai == 0) = false := beq_eq_false_iff_ne.2 h1
    clear h1
    go_enter Tryz.func38, Tryz.ntmps38
    go_wp2
    go_ret
    exact ⟨ret_int (by have := HV.out; omega), HG.out⟩
end Go.Proofs.YtpikjceodmepiaaGreatDoor

namespace Go.Proofs.YtpikjceodmepiaaGreatDoor
open Go.RowKit Hb Hf
set_option linter.unusedVariables false
set_option linter.unusedSimpArgs false
/-! ### normal ends -/
theorem ival_digs (z : Int) : ival (decide (z < 0)) (digs W z.natAbs) = z := by
  unfold ival
  rw [nv_digs (by decide)]
  by_cases h : z < 0
  · rw [if_pos (by simpa using h)]; omega
  · rw [if_neg (by simpa using h)]; omega
/-- a number, normal -/
def nb (z : Int) (A : Option Addr) (c : Nat) : Bd := ⟨0, decide (z < 0), A, (digs W z.natAbs).length, c, digs W z.natAbs⟩
def ib (i : Int) : Bd := ⟨i, false, none, 0, 0, []⟩
theorem nb_z (z : Int) (A : Option Addr) (c : Nat) : (nb z A c).z = z := ival_digs z
theorem nb_ed (z : Int) (A : Option Addr) (c : Nat) : (nb z A c).ed = .num z := by rw [Bd.ed_zero rfl, nb_z]
theorem nb_nrm (z : Int) (A : Option Addr) (c : Nat) : (nb z A c).Nrm := ⟨.inr (.inl rfl), fun h => absurd rfl h, by rw [nb_z]; exact ⟨rfl, rfl⟩⟩
theorem ib_nrm {i : Int} (h : i = -1 ∨ i = 1) : (ib i).Nrm := ⟨by rcases h with h | h <;> simp [Bd.Tri, ib, h], fun _ => ⟨rfl, rfl⟩, by simp [ib, Bd.z, ival, nv, digs_zero]⟩
theorem ib_at (w : World) (P : Nat → Prop) {i : Int} (h : i = -1 ∨ i = 0 ∨ i = 1) : (ib i).At w P := ⟨LimP.nil w P none (c := 0) (by simp [maxLen]), by show (-9223372036854775808 : Int) ≤ i; omega, by show i ≤ 9223372036854775807; omega⟩
/-- the call's own memory, from block B on -/
abbrev Fr (B : Nat) (w : World) : Nat → Prop := fun x => B ≤ x ∧ x < w.heap.size
theorem nb_at {w : World} {B : Nat} {z : Int} {A : Option Addr} {c : Nat} (h : OwnU w B A (digs W z.natAbs).length c (u32s (digs W z.natAbs))) : (nb z A c).At w (Fr B w) :=
  ⟨LimP.of_own h (dig_digs (by decide) _), by show (-9223372036854775808 : Int) ≤ 0; omega, by show (0 : Int) ≤ 9223372036854775807; omega⟩
theorem ResI.nb {w : World} {B : Nat} {v : Value} {z : Int} (h : ResI w B v z) : ∃ A c, v = .agg #[.bool (decide (z < 0)), .slice A (digs W z.natAbs).length c] ∧ (nb z A c).At w (Fr B w) := by
  obtain ⟨A, c, hv, ho⟩ := h
  exact ⟨A, c, hv, nb_at ho⟩
theorem Bd.At.below {w w' : World} {B : Nat} {b : Bd} (h : b.At w (Fr B w)) (hb : Below w.heap.size w w') : b.At w' (Fr B w') := h.keep fun x hx => ⟨⟨hx.1, Nat.lt_of_lt_of_le hx.2 hb.size⟩, hb.block x hx.2⟩
/-! ### clean -/
attribute [local go_sem ↓] Go.wp_at_zero Go.wp_at_succ
/-- an end of the call's own, normal, that is e -/
def CleanPost (w : World) (e : Ed) (en : Ending) (w' : World) : Prop := ∃ b : Bd, en = .returned b.v ∧ b.At w' (Fr w.heap.size w') ∧ b.Nrm ∧ b.ed = e ∧ Below w.heap.size w w'
set_option maxHeartbeats 1000000 in
theorem clean_any {a : Bd} {P : Nat → Prop} {w : World} (ha : a.At w P) (hP : ∀ x, P x → x < w.heap.size) (hs : a.i = 0 → a.n ≤ 67108864) :
    Calls Tryz.prog 101 #[a.v] w (CleanPost w a.ed) := by
  have hG := ((Below.refl w.heap.size w).alloc (Nat.le_refl _) (.cells a.vals.toArray 67)).alloc (by simp) (.cells (ib 0).vals.toArray 67)
  have HC := Lib.hid (fun (h0 : a.i = 0) (w1 : World) (h1 : Below w.heap.size w w1) => norm_any a.g ((ha.lim.sl hP).below (C := w.heap.size) h1 (Nat.le_refl _)) (hs h0) h1.size)
  have e1 := EBox.new w a
  have e2 := EBox.new (w.alloc (.cells a.vals.toArray 67)) (ib 0)
  have e3 := (EBox.below e1 (w' := (w.alloc (.cells a.vals.toArray 67)).alloc (.cells (ib 0).vals.toArray 67)) ((Below.refl _ _).alloc (Nat.le_refl _) _))
  have HE2 := Lib.hid e2
  obtain ⟨ai, ag, aA, an, ac, al⟩ := a
  obtain ⟨x0, x1, x2⟩ := e3.cells
  have HG := Lib.hid hG
  have hr1 := ha.r1
  have hr2 := ha.r2
  rw [World.size_alloc] at HE2
  have HD := Lib.hid (show Bd.ed ⟨ai, ag, aA, an, ac, al⟩ = if ai < 0 then .lo else if 0 < ai then .hi else .num (ival ag al) from rfl)
  simp only [Bd.v, Bd.vals] at *
  clear ha hP e1 e2 e3 hs hG
  obtain ⟨y0, y1, y2⟩ := HE2.out.cells
  obtain ⟨f0, f1, f2⟩ := HE2.out.frozens
  have HF := Lib.hid (fun (w1 : World) (b : Bd) (hb : EBox w1 (w.heap.size + 1) b) => hb.cells)
  by_cases h1 : ai < 0
  · rw [if_pos h1] at HD
    go_enter Tryz.func101, Tryz.ntmps101
    go_wp2
    refine bodyPost_ret (v := (ib (-1)).v) (by simp [results, Tryz.results101, go_sem]; rfl) rfl ⟨ib (-1), rfl, ib_at _ _ (.inl rfl), ib_nrm (.inl rfl), by rw [HD.out]; rfl, ?_⟩
    exact ((Below.refl w.heap.size w).alloc (Nat.le_refl _) _).alloc (by simp) _
  · rw [if_neg h1] at HD
    by_cases h2 : 0 < ai
    · rw [if_pos h2] at HD
      go_enter Tryz.func101, Tryz.ntmps101
      go_wp2
      refine bodyPost_ret (v := (ib 1).v) (by simp [results, Tryz.results101, go_sem]; rfl) rfl ⟨ib 1, rfl, ib_at _ _ (.inr (.inr rfl)), ib_nrm (.inr rfl), by rw [HD.out]; rfl, ?_⟩
      exact ((Below.refl w.heap.size w).alloc (Nat.le_refl _) _).alloc (by simp) _
    · rw [if_neg h2] at HD
      obtain rfl : ai = 0 := by omega
      have HC2 := Lib.hid (HC.out rfl)
      clear HC h1 h2
      go_enter Tryz.func101, Tryz.ntmps101
      go_wp2_with (go_at_call 84; refine (HC2.out _ HG.out).mono ?_; rintro e w1 ⟨v, rfl, hr, hb1⟩; obtain ⟨A1, c1, rfl, hat⟩ := hr.nb; have HB1 := Lib.hid hb1; have HAt := Lib.hid hat; have HX := Lib.hid (HE2.out.below hb1); clear hr hb1 hat; obtain ⟨y0, y1, y2⟩ := HX.out.cells; obtain ⟨f0, f1, f2⟩ := HX.out.frozens)
      generalize ival ag al = Z at *
      have HS := Lib.hid (HX.out.set3 (nb Z A1 c1))
      simp only [nb] at HS
      generalize ((w1.setCell ⟨w.heap.size + 1, 0, none⟩ (.int .i64 0)).setCell ⟨w.heap.size + 1, 1, none⟩ (.bool (decide (Z < 0)))).setCell ⟨w.heap.size + 1, 2, none⟩ (.slice A1 (digs W Z.natAbs).length c1) = w6 at *
      obtain ⟨r0, r1, r2⟩ := HS.out.1.cells
      refine bodyPost_ret (v := (nb Z A1 c1).v) (by simp [results, Tryz.results101, go_sem, r0, r1, r2]; rfl) rfl ⟨nb Z A1 c1, rfl, ?_, nb_nrm _ _ _, by rw [HD.out]; exact nb_ed _ _ _, ?_⟩
      · have hz1 := HB1.out.size
        have hz2 := HS.out.2.size
        simp at hz1
        refine HAt.out.keep fun x hx => ⟨⟨by have := hx.1; simp at this; omega, Nat.lt_of_lt_of_le hx.2 hz2⟩, HS.out.2.block x hx.2 (fun e => ?_)⟩
        injection e with e
        have := hx.1
        simp at this
        omega
      · exact (HG.out.trans (HB1.out.mono (by simp; omega))).grown HS.out.2 (HG.out.trans (HB1.out.mono (by simp; omega))).size (fun j e => by injection e with e; omega)
end Go.Proofs.YtpikjceodmepiaaGreatDoor


import Derived.Test.YtpikjceodmepiaaYb
namespace Go.Proofs.Ytpikjceodmepiaa
open Go.RowKit Hb Hf
set_option linter.unusedVariables false
set_option linter.unusedSimpArgs false
/-! ### normal ends -/
theorem ival_digs (z : Int) : ival (decide (z < 0)) (digs W z.natAbs) = z := by
  unfold ival
  rw [nv_digs (by decide)]
  by_cases h : z < 0
  · rw [if_pos (by simpa using h)]; omega
  · rw [if_neg (by simpa using h)]; omega
/-- a number, normal -/
def nb (z : Int) (A : Option Addr) (c : Nat) : Bd := ⟨0, decide (z < 0), A, (digs W z.natAbs).length, c, digs W z.natAbs⟩
def ib (i : Int) : Bd := ⟨i, false, none, 0, 0, []⟩
theorem nb_z (z : Int) (A : Option Addr) (c : Nat) : (nb z A c).z = z := ival_digs z
theorem nb_ed (z : Int) (A : Option Addr) (c : Nat) : (nb z A c).ed = .num z := by rw [Bd.ed_zero rfl, nb_z]
theorem nb_nrm (z : Int) (A : Option Addr) (c : Nat) : (nb z A c).Nrm := ⟨.inr (.inl rfl), fun h => absurd rfl h, by rw [nb_z]; exact ⟨rfl, rfl⟩⟩
theorem ib_nrm {i : Int} (h : i = -1 ∨ i = 1) : (ib i).Nrm := ⟨by rcases h with h | h <;> simp [Bd.Tri, ib, h], fun _ => ⟨rfl, rfl⟩, by simp [ib, Bd.z, ival, nv, digs_zero]⟩
theorem ib_at (w : World) (P : Nat → Prop) {i : Int} (h : i = -1 ∨ i = 0 ∨ i = 1) : (ib i).At w P := ⟨LimP.nil w P none (c := 0) (by simp [maxLen]), by show (-9223372036854775808 : Int) ≤ i; omega, by show i ≤ 9223372036854775807; omega⟩
/-- the call's own memory, from block B on -/
abbrev Fr (B : Nat) (w : World) : Nat → Prop := fun x => B ≤ x ∧ x < w.heap.size
theorem nb_at {w : World} {B : Nat} {z : Int} {A : Option Addr} {c : Nat} (h : OwnU w B A (digs W z.natAbs).length c (u32s (digs W z.natAbs))) : (nb z A c).At w (Fr B w) :=
  ⟨LimP.of_own h (dig_digs (by decide) _), by show (-9223372036854775808 : Int) ≤ 0; omega, by show (0 : Int) ≤ 9223372036854775807; omega⟩
theorem ResI.nb {w : World} {B : Nat} {v : Value} {z : Int} (h : ResI w B v z) : ∃ A c, v = .agg #[.bool (decide (z < 0)), .slice A (digs W z.natAbs).length c] ∧ (nb z A c).At w (Fr B w) := by
  obtain ⟨A, c, hv, ho⟩ := h
  exact ⟨A, c, hv, nb_at ho⟩
theorem Bd.At.below {w w' : World} {B : Nat} {b : Bd} (h : b.At w (Fr B w)) (hb : Below w.heap.size w w') : b.At w' (Fr B w') := h.keep fun x hx => ⟨⟨hx.1, Nat.lt_of_lt_of_le hx.2 hb.size⟩, hb.block x hx.2⟩
/-! ### clean -/
attribute [local go_sem ↓] Go.wp_at_zero Go.wp_at_succ
/-- an end of the call's own, normal, that is e -/
def CleanPost (w : World) (e : Ed) (en : Ending) (w' : World) : Prop := ∃ b : Bd, en = .returned b.v ∧ b.At w' (Fr w.heap.size w') ∧ b.Nrm ∧ b.ed = e ∧ Below w.heap.size w w'
set_option maxHeartbeats 1000000 in
theorem clean_any {a : Bd} {P : Nat → Prop} {w : World} (ha : a.At w P) (hP : ∀ x, P x → x < w.heap.size) (hs : a.i = 0 → a.n ≤ 67108864) :
    Calls Try.prog 73 #[a.v] w (CleanPost w a.ed) := by
  have hG := ((Below.refl w.heap.size w).alloc (Nat.le_refl _) (.cells a.vals.toArray 39)).alloc (by simp) (.cells (ib 0).vals.toArray 39)
  have HC := Lib.hid (fun (h0 : a.i = 0) (w1 : World) (h1 : Below w.heap.size w w1) => norm_any a.g ((ha.lim.sl hP).below (C := w.heap.size) h1 (Nat.le_refl _)) (hs h0) h1.size)
  have e1 := EBox.new w a
  have e2 := EBox.new (w.alloc (.cells a.vals.toArray 39)) (ib 0)
  have e3 := (EBox.below e1 (w' := (w.alloc (.cells a.vals.toArray 39)).alloc (.cells (ib 0).vals.toArray 39)) ((Below.refl _ _).alloc (Nat.le_refl _) _))
  have HE2 := Lib.hid e2
  obtain ⟨ai, ag, aA, an, ac, al⟩ := a
  obtain ⟨x0, x1, x2⟩ := e3.cells
  have HG := Lib.hid hG
  have hr1 := ha.r1
  have hr2 := ha.r2
  rw [World.size_alloc] at HE2
  have HD := Lib.hid (show Bd.ed ⟨ai, ag, aA, an, ac, al⟩ = if ai < 0 then .lo else if 0 < ai then .hi else .num (ival ag al) from rfl)
  simp only [Bd.v, Bd.vals] at *
  clear ha hP e1 e2 e3 hs hG
  obtain ⟨y0, y1, y2⟩ := HE2.out.cells
  obtain ⟨f0, f1, f2⟩ := HE2.out.frozens
  have HF := Lib.hid (fun (w1 : World) (b : Bd) (hb : EBox w1 (w.heap.size + 1) b) => hb.cells)
  by_cases h1 : ai < 0
  · rw [if_pos h1] at HD
    go_enter Try.func73, Try.ntmps73
    go_wp2
    refine bodyPost_ret (v := (ib (-1)).v) (by simp [results, Try.results73, go_sem]; rfl) rfl ⟨ib (-1), rfl, ib_at _ _ (.inl rfl), ib_nrm (.inl rfl), by rw [HD.out]; rfl, ?_⟩
    exact ((Below.refl w.heap.size w).alloc (Nat.le_refl _) _).alloc (by simp) _
  · rw [if_neg h1] at HD
    by_cases h2 : 0 < ai
    · rw [if_pos h2] at HD
      go_enter Try.func73, Try.ntmps73
      go_wp2
      refine bodyPost_ret (v := (ib 1).v) (by simp [results, Try.results73, go_sem]; rfl) rfl ⟨ib 1, rfl, ib_at _ _ (.inr (.inr rfl)), ib_nrm (.inr rfl), by rw [HD.out]; rfl, ?_⟩
      exact ((Below.refl w.heap.size w).alloc (Nat.le_refl _) _).alloc (by simp) _
    · rw [if_neg h2] at HD
      obtain rfl : ai = 0 := by omega
      have HC2 := Lib.hid (HC.out rfl)
      clear HC h1 h2
      go_enter Try.func73, Try.ntmps73
      go_wp2_with (go_at_call 65; refine (HC2.out _ HG.out).mono ?_; rintro e w1 ⟨v, rfl, hr, hb1⟩; obtain ⟨A1, c1, rfl, hat⟩ := hr.nb; have HB1 := Lib.hid hb1; have HAt := Lib.hid hat; have HX := Lib.hid (HE2.out.below hb1); clear hr hb1 hat; obtain ⟨y0, y1, y2⟩ := HX.out.cells; obtain ⟨f0, f1, f2⟩ := HX.out.frozens)
      generalize ival ag al = Z at *
      have HS := Lib.hid (HX.out.set3 (nb Z A1 c1))
      simp only [nb] at HS
      generalize ((w1.setCell ⟨w.heap.size + 1, 0, none⟩ (.int .i64 0)).setCell ⟨w.heap.size + 1, 1, none⟩ (.bool (decide (Z < 0)))).setCell ⟨w.heap.size + 1, 2, none⟩ (.slice A1 (digs W Z.natAbs).length c1) = w6 at *
      obtain ⟨r0, r1, r2⟩ := HS.out.1.cells
      refine bodyPost_ret (v := (nb Z A1 c1).v) (by simp [results, Try.results73, go_sem, r0, r1, r2]; rfl) rfl ⟨nb Z A1 c1, rfl, ?_, nb_nrm _ _ _, by rw [HD.out]; exact nb_ed _ _ _, ?_⟩
      · have hz1 := HB1.out.size
        have hz2 := HS.out.2.size
        simp at hz1
        refine HAt.out.keep fun x hx => ⟨⟨by have := hx.1; simp at this; omega, Nat.lt_of_lt_of_le hx.2 hz2⟩, HS.out.2.block x hx.2 (fun e => ?_)⟩
        injection e with e
        have := hx.1
        simp at this
        omega
      · exact (HG.out.trans (HB1.out.mono (by simp; omega))).grown HS.out.2 (HG.out.trans (HB1.out.mono (by simp; omega))).size (fun j e => by injection e with e; omega)
end Go.Proofs.Ytpikjceodmepiaa

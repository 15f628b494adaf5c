import Derived.Test.YtpikjceodmepiaaZb
namespace Go.Proofs.Ytpikjceodmepiaa
open Go.RowKit Hb Hf
set_option linter.unusedVariables false
set_option linter.unusedSimpArgs false
attribute [local go_sem ↓] Go.wp_at_zero Go.wp_at_succ
/-! ### Has -/
theorem inR_le {z : Int} {r : R} : inR z r ↔ leE r.1 (.num z) ∧ leE (.num z) r.2 := by
  obtain ⟨a, b⟩ := r
  cases a <;> cases b <;> simp [inR, leE, lob, hib]
def HasPost (w : World) (L : List R) (z : Int) (e : Ending) (w' : World) : Prop := e = .returned (.tuple #[.bool (memB z L), .int .i64 0]) ∧ Below w.heap.size w w'
structure HS (w : World) (B n1 c1 n' c' K M : Nat) (g : Bool) (A1 A' : Option Addr) (z : Int) (qs : List Rg) (k : Nat) (wr : World) : Prop where
  bel : Below B w wr
  int : IBox wr (B + 1) g (.slice A' n' c')
  out : SOut wr (B + 4) A1 n1 c1 qs K M
  no : ¬ Hf.mem z ((qs.map edsR).take k)
set_option maxRecDepth 100000 in
set_option maxHeartbeats 8000000 in
theorem Has_ok {w : World} {P : Nat → Prop} {A A' : Option Addr} {n c n' c' K M : Nat} {g : Bool} {l : List Nat} {ps : List Rg} {z : Int} (h : SIn w P A n c ps K M) (hl : LimP w P A' n' c' l) (hn : n' ≤ 128) (hP : ∀ b, P b → b < w.heap.size) (hK : K ≤ 1000) (hM : M ≤ 128) (hz : ival g l = z) :
    Calls Try.prog 24 #[.slice A n c, .agg #[.bool g, .slice A' n' c']] w (HasPost w (ps.map edsR) z) := by
  obtain ⟨B, hB⟩ : ∃ B, w.heap.size = B := ⟨_, rfl⟩
  have HB := Lib.hid hB
  have HT := Lib.hid (V3_take (g := g) h hl hn hP hK hM)
  have HKM := Lib.hid (And.intro hK hM)
  have HP := Lib.hid hP
  have HL := Lib.hid hl
  have HV := Lib.hid hz
  unfold HasPost
  rw [hB]
  unfold V3 at HT
  rw [hB] at HT
  clear h hl hP hK hM hB hz hn
  go_enter Try.func24, Try.ntmps24
  go_wp2_with fail
  rw [HB.out]
  (with_reducible refine HT.out.mono ?_)
  rintro e w1 ⟨rfl, hb1, hz1, hi1, A1, n1, c1, qs, hv1, ho1, hm1⟩
  have HZ1 := Lib.hid hz1
  have HO1 := Lib.hid ho1
  have HM1 := Lib.hid (fun (b : Bool) (hb : b = memB z (qs.map edsR)) => show b = memB z (ps.map edsR) from hb.trans (Bool.eq_iff_iff.2 (by rw [memB_iff, memB_iff]; exact hm1 z)))
  have hHS : HS w B n1 c1 n' c' K M g A1 A' z qs 0 w1 := ⟨by have := HB.out; exact this ▸ hb1, hi1, ho1, fun ⟨r, hr, _⟩ => by simp at hr⟩
  have HSC := Lib.hid hHS
  obtain ⟨v0, _⟩ := hv1.cell
  have HLq := Lib.hid (show (qs.map edsR).length = n1 ∧ n1 ≤ 1000 from ⟨by rw [List.length_map]; exact ho1.row.len, Nat.le_trans ho1.len HKM.out.1⟩)
  have hn9 : n1 ≤ 1000 := HLq.out.2
  clear hb1 hz1 hi1 hv1 ho1 hm1 HT hHS
  go_upto_region 5 with fail
  clear v0
  go_loopw [18] (fun vi wr => ∃ k, k ≤ n1 ∧ vi = .int .i64 (k : Nat) ∧ Hid (HS w B n1 c1 n' c' K M g A1 A' z qs k wr)) (fun vi _ => n1 - (intOf vi).toNat)
  case atStart => exact ⟨0, Nat.zero_le _, rfl, HSC⟩
  case round =>
    obtain ⟨k, hk, rfl, HI⟩ := hrel
    clear HSC
    by_cases hkn : k < n1
    · obtain ⟨p, hp⟩ : ∃ p, qs[k]? = some p := ⟨qs[k]'(by have := HLq.out.1; rw [List.length_map] at this; omega), by simp⟩
      obtain ⟨b0, o0, rfl, hPb, i0, i1, i2, i3, i4, i5⟩ := HI.out.out.set.row.at_ hp
      have hpm := List.mem_of_getElem? hp
      have HGd := Lib.hid (HI.out.out.gd p hpm)
      have HKp := Lib.hid (HI.out.out.set.kid p hpm)
      have HPk := Lib.hid (show (qs.map edsR)[k]? = some (edsR p) by simp [hp])
      have hX := RBox.new wr p
      have hlb : b0 < wr.heap.size := hPb.2
      have HBx := Lib.hid (show Below wr.heap.size wr (wr.alloc (.cells (cells6 p).toArray 41)) from (Below.refl _ _).alloc (Nat.le_refl _) _)
      have HC1 := Lib.hid (fun y (hy : Below wr.heap.size wr y) => fcmp_any (w := y) (a := p.1) (b := ⟨0, g, A', n', c', l⟩) (P := fun x => x < y.heap.size) (HKp.out.a.keep (fun x hx => ⟨by have := hy.size; have := hx.2; omega, hy.block x hx.2⟩))
        ⟨HL.out.keep (fun x hx => ⟨by have := HP.out x hx; have := HI.out.bel.size; have := hy.size; have := HB.out; omega, (hy.block x (by have := HP.out x hx; have := HI.out.bel.size; have := HB.out; omega)).trans (HI.out.bel.block x (by have := HP.out x hx; have := HB.out; omega))⟩), by simp, by simp⟩ (fun _ h => h) HGd.out.1.1.tri (.inr (.inl rfl)))
      have HC2 := Lib.hid (fun y (hy : Below wr.heap.size wr y) => fcmp_any (w := y) (a := ⟨0, g, A', n', c', l⟩) (b := p.2) (P := fun x => x < y.heap.size)
        ⟨HL.out.keep (fun x hx => ⟨by have := HP.out x hx; have := HI.out.bel.size; have := hy.size; have := HB.out; omega, (hy.block x (by have := HP.out x hx; have := HI.out.bel.size; have := HB.out; omega)).trans (HI.out.bel.block x (by have := HP.out x hx; have := HB.out; omega))⟩), by simp, by simp⟩ (HKp.out.b.keep (fun x hx => ⟨by have := hy.size; have := hx.2; omega, hy.block x hx.2⟩)) (fun _ h => h) (.inr (.inl rfl)) HGd.out.1.2.tri)
      have HI1 := Lib.hid (show (cmpB p.1 ⟨0, g, A', n', c', l⟩ ≤ 0 ∧ cmpB ⟨0, g, A', n', c', l⟩ p.2 ≤ 0) ↔ inR z (edsR p) from by
        rw [cmpB_ge HGd.out.1.1.tri (.inr (.inl rfl)), cmpB_ge (.inr (.inl rfl)) HGd.out.1.2.tri, inR_le, Bd.ed_zero (b := ⟨0, g, A', n', c', l⟩) rfl]
        show leE _ (.num (ival g l)) ∧ leE (.num (ival g l)) _ ↔ _
        rw [HV.out]
        rfl)
      obtain ⟨x, hx⟩ : ∃ x, cmpB p.1 ⟨0, g, A', n', c', l⟩ = x := ⟨_, rfl⟩
      obtain ⟨y, hy⟩ : ∃ x, cmpB ⟨0, g, A', n', c', l⟩ p.2 = x := ⟨_, rfl⟩
      rw [hx] at HC1 HI1
      rw [hy] at HC2 HI1
      clear hx hy
      obtain ⟨⟨p1i, p1g, p1A, p1n, p1c, p1l⟩, ⟨p2i, p2g, p2A, p2n, p2c, p2l⟩⟩ := p
      have HX := Lib.hid hX
      simp only [cells6_eq] at HX HBx
      simp only [Bd.v, Bd.vals] at HC1 HC2
      simp only at i0 i1 i2 i3 i4 i5
      have hIb := HI.out.int.below HBx.out
      obtain ⟨y0, y1⟩ := hIb.cells
      obtain ⟨z0, z1, z2, z3, z4, z5⟩ := HX.out.cells
      simp only at z0 z1 z2 z3 z4 z5
      have hki : (k : Int) < (n1 : Int) := by omega
      have hk0 : (0 : Int) ≤ (k : Int) := by omega
      clear hp hX hPb hpm hIb
      have HFd := Lib.hid (fun (u : World) (hu : Below wr.heap.size wr u) (b : Bool) (hb : b = true ↔ inR z (edsR ((⟨p1i, p1g, p1A, p1n, p1c, p1l⟩ : Bd), (⟨p2i, p2g, p2A, p2n, p2c, p2l⟩ : Bd)))) => show (b = true → (Ending.returned (.tuple #[.bool true, .int .i64 0]) = .returned (.tuple #[.bool (memB z (ps.map edsR)), .int .i64 0]) ∧ Below B w u)) ∧ (b = false → HS w B n1 c1 n' c' K M g (some ⟨b0, o0, none⟩) A' z qs (k + 1) u) from
        ⟨fun hb1 => ⟨by rw [← HM1.out true (Eq.symm (memB_iff.2 ⟨_, List.mem_of_getElem? HPk.out, hb.1 hb1⟩))], HI.out.bel.trans (hu.mono (by have := HI.out.bel.size; have := HB.out; omega))⟩,
         fun hb1 => ⟨HI.out.bel.trans (hu.mono (by have := HI.out.bel.size; have := HB.out; omega)), HI.out.int.below hu, HI.out.out.below hu, fun hm => by
          rw [List.take_add_one, HPk.out] at hm
          obtain ⟨r, hr, h2⟩ := hm
          rcases List.mem_append.1 hr with hr | hr
          · exact HI.out.no ⟨r, hr, h2⟩
          · simp only [Option.toList, List.mem_singleton] at hr
            subst hr
            rw [← hb, hb1] at h2
            cases h2⟩⟩)
      have h3 : (x ≤ 0 ∧ y ≤ 0) ∨ (x ≤ 0 ∧ ¬ y ≤ 0) ∨ ¬ x ≤ 0 := by omega
      rcases h3 with ⟨hx0, hy0⟩ | ⟨hx0, hy0⟩ | hx0
      · go_wp2_with (first | (go_at_call 46; (with_reducible refine (HC1.out _ HBx.out).mono ?_); rintro e u7 ⟨rfl, hg7⟩; have HB7 := Lib.hid (HBx.out.trans (hg7.bel.mono HBx.out.size)); have hI7 := HI.out.int.below HB7.out; have hX7 := HX.out.below hg7.bel; clear y0 y1 z0 z1 z2 z3 z4 z5; obtain ⟨y0, y1⟩ := hI7.cells; obtain ⟨z0, z1, z2, z3, z4, z5⟩ := hX7.cells; simp only at z0 z1 z2 z3 z4 z5; clear hI7 hX7 hg7) | (go_at_call 46; (with_reducible refine (HC2.out _ HB7.out).mono ?_); rintro e u8 ⟨rfl, hg8⟩; have HB8 := Lib.hid (HB7.out.trans (hg8.bel.mono HB7.out.size))))
        have h9 := (HFd.out u8 HB8.out true ⟨fun _ => HI1.out.1 ⟨hx0, hy0⟩, fun _ => rfl⟩).1 rfl
        exact bodyPost_ret (v := .tuple #[.bool true, .int .i64 0]) (by simp [results, Try.results24, go_sem]) rfl h9
      · go_wp2_with (first | (go_at_call 46; (with_reducible refine (HC1.out _ HBx.out).mono ?_); rintro e u7 ⟨rfl, hg7⟩; have HB7 := Lib.hid (HBx.out.trans (hg7.bel.mono HBx.out.size)); have hI7 := HI.out.int.below HB7.out; have hX7 := HX.out.below hg7.bel; clear y0 y1 z0 z1 z2 z3 z4 z5; obtain ⟨y0, y1⟩ := hI7.cells; obtain ⟨z0, z1, z2, z3, z4, z5⟩ := hX7.cells; simp only at z0 z1 z2 z3 z4 z5; clear hI7 hX7 hg7) | (go_at_call 46; (with_reducible refine (HC2.out _ HB7.out).mono ?_); rintro e u8 ⟨rfl, hg8⟩; have HB8 := Lib.hid (HB7.out.trans (hg8.bel.mono HB7.out.size))))
        have h9 := (HFd.out u8 HB8.out false ⟨fun h => (by cases h), fun h => absurd (HI1.out.2 h).2 (by omega)⟩).2 rfl
        exact ⟨⟨k + 1, by omega, by go_num, Lib.hid h9⟩, by simp [intOf]; omega⟩
      · go_wp2_with (first | (go_at_call 46; (with_reducible refine (HC1.out _ HBx.out).mono ?_); rintro e u7 ⟨rfl, hg7⟩; have HB7 := Lib.hid (HBx.out.trans (hg7.bel.mono HBx.out.size)); have hI7 := HI.out.int.below HB7.out; have hX7 := HX.out.below hg7.bel; clear y0 y1 z0 z1 z2 z3 z4 z5; obtain ⟨y0, y1⟩ := hI7.cells; obtain ⟨z0, z1, z2, z3, z4, z5⟩ := hX7.cells; simp only at z0 z1 z2 z3 z4 z5; clear hI7 hX7 hg7))
        have h9 := (HFd.out u7 HB7.out false ⟨fun h => (by cases h), fun h => absurd (HI1.out.2 h).1 (by omega)⟩).2 rfl
        exact ⟨⟨k + 1, by omega, by go_num, Lib.hid h9⟩, by simp [intOf]; omega⟩
    · have hki : ¬ (k : Int) < (n1 : Int) := by omega
      have hfn : false = memB z (ps.map edsR) := HM1.out false (by
        have h1 := HI.out.no
        rw [List.take_of_length_le (by rw [HLq.out.1]; omega)] at h1
        cases h2 : memB z (qs.map edsR) with
        | false => rfl
        | true => exact absurd (memB_iff.1 h2) h1)
      have key : Ending.returned (.tuple #[.bool false, .int .i64 0]) = .returned (.tuple #[.bool (memB z (ps.map edsR)), .int .i64 0]) ∧ Below B w wr := ⟨by rw [← hfn], HI.out.bel⟩
      clear hfn
      go_wp2_with fail
      exact bodyPost_ret (v := .tuple #[.bool false, .int .i64 0]) (by simp [results, Try.results24, go_sem]) rfl key
end Go.Proofs.Ytpikjceodmepiaa

import Derived.Test.YtpikjceodmepiaaAim
set_option linter.unusedVariables false
set_option linter.unusedSimpArgs false
namespace Go.Proofs.Ytpikjceodmepiaa
open Go.RowKit Hb Hf
set_option linter.unusedVariables false
set_option linter.unusedSimpArgs false
attribute [local go_sem ↓] Go.wp_at_zero Go.wp_at_succ
/-! ### the ends of a normal set are ends of what it was made of -/
theorem nf_lo_out : ∀ {N : List R}, NF N → ∀ {r : R}, r ∈ N → ∀ {x : Int}, r.1 = .num x → Hf.mem x N ∧ ¬ Hf.mem (x - 1) N
  | [], _, r, hr, _, _ => by cases hr
  | s :: l, hN, r, hr, x, hx => by
    rcases List.mem_cons.1 hr with rfl | hr
    · obtain ⟨z, h1, h2⟩ := hN.head
      rw [hx] at h1
      have h1 : x ≤ z := h1
      refine ⟨mem_cons.2 (.inl ⟨by rw [hx]; exact Int.le_refl x, hib_mono h2 h1⟩), fun h => ?_⟩
      rcases mem_cons.1 h with h | h
      · have h3 := h.1
        rw [hx] at h3
        have h3 : x ≤ x - 1 := h3
        omega
      · obtain ⟨y, e, h3⟩ := hN.above h
        rw [e] at h2
        have h2 : z ≤ y := h2
        omega
    · obtain ⟨h1, h2⟩ := nf_lo_out hN.tail hr hx
      refine ⟨mem_cons.2 (.inr h1), fun h => ?_⟩
      rcases mem_cons.1 h with h | h
      · obtain ⟨y, e, h3⟩ := hN.above h1
        have h4 := h.2
        rw [e] at h4
        have h4 : x - 1 ≤ y := h4
        omega
      · exact h2 h
theorem nf_hi_out : ∀ {N : List R}, NF N → ∀ {r : R}, r ∈ N → ∀ {y : Int}, r.2 = .num y → Hf.mem y N ∧ ¬ Hf.mem (y + 1) N
  | [], _, r, hr, _, _ => by cases hr
  | s :: l, hN, r, hr, y, hy => by
    rcases List.mem_cons.1 hr with rfl | hr
    · obtain ⟨z, h1, h2⟩ := hN.head
      rw [hy] at h2
      have h2 : z ≤ y := h2
      refine ⟨mem_cons.2 (.inl ⟨lob_mono h1 h2, by rw [hy]; exact Int.le_refl y⟩), fun h => ?_⟩
      rcases mem_cons.1 h with h | h
      · have h3 := h.2
        rw [hy] at h3
        have h3 : y + 1 ≤ y := h3
        omega
      · obtain ⟨y', e, h3⟩ := hN.above h
        rw [hy] at e
        injection e with e
        omega
    · obtain ⟨h1, h2⟩ := nf_hi_out hN.tail hr hy
      refine ⟨mem_cons.2 (.inr h1), fun h => ?_⟩
      rcases mem_cons.1 h with h | h
      · obtain ⟨y', e, h3⟩ := hN.above h1
        have h4 := h.2
        rw [e] at h4
        have h4 : y + 1 ≤ y' := h4
        omega
      · exact h2 h
theorem nf_lo {N L : List R} (hN : NF N) (hm : ∀ z, Hf.mem z N ↔ Hf.mem z L) {r : R} (hr : r ∈ N) {x : Int} (hx : r.1 = .num x) : ∃ s ∈ L, s.1 = .num x := by
  obtain ⟨h1, h2⟩ := nf_lo_out hN hr hx
  obtain ⟨s, hs, h3, h4⟩ := (hm x).1 h1
  refine ⟨s, hs, ?_⟩
  have h5 : ¬ lob s.1 (x - 1) := fun h => h2 ((hm _).2 ⟨s, hs, h, hib_mono h4 (by omega)⟩)
  cases e : s.1 with
  | lo => rw [e] at h5; exact (h5 trivial).elim
  | hi => rw [e] at h3; exact h3.elim
  | num x' =>
    rw [e] at h3 h5
    have h3 : x' ≤ x := h3
    have h5 : ¬ x' ≤ x - 1 := h5
    rw [show x' = x by omega]
theorem nf_hi {N L : List R} (hN : NF N) (hm : ∀ z, Hf.mem z N ↔ Hf.mem z L) {r : R} (hr : r ∈ N) {y : Int} (hy : r.2 = .num y) : ∃ s ∈ L, s.2 = .num y := by
  obtain ⟨h1, h2⟩ := nf_hi_out hN hr hy
  obtain ⟨s, hs, h3, h4⟩ := (hm y).1 h1
  refine ⟨s, hs, ?_⟩
  have h5 : ¬ hib s.2 (y + 1) := fun h => h2 ((hm _).2 ⟨s, hs, lob_mono h3 (by omega), h⟩)
  cases e : s.2 with
  | hi => rw [e] at h5; exact (h5 trivial).elim
  | lo => rw [e] at h4; exact h4.elim
  | num y' =>
    rw [e] at h4 h5
    have h4 : y ≤ y' := h4
    have h5 : ¬ y + 1 ≤ y' := h5
    rw [show y' = y by omega]
theorem nf_short {N L : List R} (hN : NF N) (hm : ∀ z, Hf.mem z N ↔ Hf.mem z L) (hl : L.any lngS = false) : ∀ r ∈ N, lngE r.1 = false ∧ lngE r.2 = false := by
  have hL : ∀ s ∈ L, lngS s = false := fun s hs => by
    cases e : lngS s with
    | false => rfl
    | true => rw [List.any_eq_true.2 ⟨s, hs, e⟩] at hl; cases hl
  intro r hr
  constructor
  · cases e : r.1 with
    | lo => rfl
    | hi => rfl
    | num x =>
      obtain ⟨s, hs, h⟩ := nf_lo hN hm hr e
      have := hL s hs
      unfold lngS at this
      rw [h] at this
      exact (Bool.or_eq_false_iff.1 this).1
  · cases e : r.2 with
    | lo => rfl
    | hi => rfl
    | num x =>
      obtain ⟨s, hs, h⟩ := nf_hi hN hm hr e
      have := hL s hs
      unfold lngS at this
      rw [h] at this
      exact (Bool.or_eq_false_iff.1 this).2
/-! ### the reference: Give -/
def GivePostB (B : Nat) (w : World) (L : List R) (e : Ending) (w' : World) : Prop :=
  ∃ A' n' c' rs, e = .returned (.tuple #[.slice A' n' c', .int .i64 0]) ∧ SetP w' (Fr B w') A' n' c' rs ∧ NF (rs.map edsR) ∧ (∀ z, Hf.mem z (rs.map edsR) ↔ Hf.mem z L) ∧ (∀ q ∈ rs, q.1.Nrm ∧ q.2.Nrm) ∧ Below B w w'
def GivePost (w : World) (L : List R) (e : Ending) (w' : World) : Prop := GivePostB w.heap.size w L e w'
def BdPost (w : World) (e0 : Ed) (e : Ending) (w' : World) : Prop := ∃ d : Bd, e = .returned d.v ∧ (d.At w' (Fr w.heap.size w') ∧ d.Nrm ∧ d.ed = e0) ∧ Below w.heap.size w w'
set_option maxRecDepth 100000 in
set_option maxHeartbeats 8000000 in
theorem rGive_any {w : World} {P : Nat → Prop} {A : Option Addr} {n c : Nat} {ps : List Rg} (h : RefI w P A n c ps) (hP : ∀ b, P b → b < w.heap.size) (hl : (ps.map edsS).any lngS = false) (h90 : ∀ N, NF N → (∀ z, Hf.mem z N ↔ Hf.mem z (ps.map edsS)) → N.length ≤ 1000) :
    Calls Try.prog 33 #[.slice A n c] w (GivePost w (ps.map edsS)) := by
  obtain ⟨L, hL⟩ : ∃ L, ps.map edsS = L := ⟨_, rfl⟩
  have HN0 := Lib.hid (rNormal_any h hP)
  rw [hL] at HN0 hl h90 ⊢
  have HLg := Lib.hid (And.intro hl h90)
  obtain ⟨B0, hB0⟩ : ∃ B0, w.heap.size = B0 := ⟨_, rfl⟩
  have HB0 := Lib.hid hB0
  unfold GivePost
  rw [hB0]
  clear h hP hl h90 hL hB0
  go_enter Try.func33, Try.ntmps33
  go_wp2_with fail
  (with_reducible refine HN0.out.mono ?_)
  rintro e w1 ⟨A1, n1, c1, qs, he, hr, hnf, hm, hb1⟩
  subst he
  rw [HB0.out] at hr hb1
  have HNf := Lib.hid (And.intro hnf hm)
  have HSt := Lib.hid (show RefS w1 (fun b => b < w1.heap.size) A1 n1 c1 qs from hr.set (fun b _ hb => hb))
  have HBt := Lib.hid hb1
  have HSh0 := Lib.hid (nf_short hnf hm HLg.out.1)
  have HLn := Lib.hid hr.len
  have hn1 : n1 ≤ 1000 := by
    have h1 := HLg.out.2 _ hnf hm
    rwa [List.length_map, hr.len] at h1
  have HLf := Lib.hid (show (qs.map edsS).any lngS = false by
    cases e : (qs.map edsS).any lngS with
    | false => rfl
    | true =>
      obtain ⟨r, h1, h2⟩ := List.any_eq_true.1 e
      have h3 := HSh0.out r h1
      unfold lngS at h2
      rw [h3.1, h3.2] at h2
      cases h2)
  have HLo := Lib.hid (rLong_set HSt.out (fun b hb => hb))
  rw [HLf.out] at HLo
  clear hr hnf hm hb1 HN0
  go_wp2_with fail
  (with_reducible refine HLo.out.mono ?_)
  rintro e w3 ⟨he, hb3⟩
  subst he
  obtain ⟨B, hB⟩ : ∃ B, w3.heap.size = B := ⟨_, rfl⟩
  have HB := Lib.hid hB
  have HS := Lib.hid (show RefS w3 (fun b => b < B) A1 n1 c1 qs from HSt.out.keep (fun b hb => ⟨by have := hb3.size; omega, hb3.block b hb⟩))
  have HB3 := Lib.hid (show Below B0 w w3 from HBt.out.trans (hb3.mono (by have := HBt.out.size; have := HB0.out; omega)))
  have HZ3 := Lib.hid (show B0 ≤ B by have := HB3.out.size; have := HB0.out; omega)
  have hcap := HS.out.row.cap
  have hmax := HS.out.row.max
  unfold maxLen at hmax
  have hn1i : ¬ (1000 : Int) < (n1 : Int) := by omega
  have HI0 := Lib.hid (show Below B w3 w3 ∧ B ≤ w3.heap.size ∧ RRow w3 B (Fr B w3) none 0 0 [] ∧ ([] : List Rg).map edsR = (qs.map edsS).take 0 ∧ (∀ q ∈ ([] : List Rg), q.1.Nrm ∧ q.2.Nrm) from ⟨Below.refl _ _, by omega, RRow.nil _ _ _, rfl, fun q hq => by cases hq⟩)
  clear hb3 HLo HSt HBt HLf
  clear hB
  go_wp2_with fail
  go_loopw [4, 5] (fun vo vi wr => ∃ k A' c' rs, k ≤ n1 ∧ vi = .int .i64 (k : Nat) ∧ vo = .slice A' k c' ∧ Hid (Below B w3 wr ∧ B ≤ wr.heap.size ∧ RRow wr B (Fr B wr) A' k c' rs ∧ rs.map edsR = (qs.map edsS).take k ∧ (∀ q ∈ rs, q.1.Nrm ∧ q.2.Nrm))) (fun _ vi _ => n1 - (intOf vi).toNat)
  case atStart => exact ⟨0, none, 0, [], Nat.zero_le _, rfl, rfl, HI0⟩
  case round =>
    obtain ⟨k, A2, c2, rs, hk, rfl, rfl, HI⟩ := hrel
    clear HI0
    by_cases hkn : k < n1
    · obtain ⟨p, hp⟩ : ∃ p, qs[k]? = some p := ⟨qs[k]'(by have := HLn.out; omega), by simp⟩
      obtain ⟨b, o, rfl, hPb, q0, q1, q2, q3, q4, q5⟩ := HS.out.row.at_ hp
      have hbB : b < B := hPb
      have HKid := Lib.hid (HS.out.kid p (List.mem_of_getElem? hp))
      have HPk := Lib.hid (show (qs.map edsS)[k]? = some (edsS p) by simp [hp])
      have HShp := Lib.hid (HSh0.out (edsS p) (List.mem_of_getElem? HPk.out))
      have HQ := Lib.hid (And.intro q0 (And.intro q1 (And.intro q2 (And.intro q3 (And.intro q4 q5)))))
      have HSh := Lib.hid (fun z (hz : Below B w3 z) => And.intro
        (show Calls Try.prog 61 #[p.1.v] z (BdPost z p.1.ed2) from (rBound_any (w := z) (HKid.out.a.keep (Q := fun b => b < B) (fun b hb => ⟨hb, hz.block b hb⟩)) (fun x hx => by have := hz.size; have := HB.out; omega) HShp.out.1).mono fun e w' ⟨d, h1, h2, h3, h4, h5⟩ => ⟨d, h1, ⟨h2, h3, h4⟩, h5⟩)
        (show Calls Try.prog 61 #[p.2.v] z (BdPost z p.2.ed2) from (rBound_any (w := z) (HKid.out.b.keep (Q := fun b => b < B) (fun b hb => ⟨hb, hz.block b hb⟩)) (fun x hx => by have := hz.size; have := HB.out; omega) HShp.out.2).mono fun e w' ⟨d, h1, h2, h3, h4, h5⟩ => ⟨d, h1, ⟨h2, h3, h4⟩, h5⟩))
      have HC1 := Lib.hid (fun (z : World) (j : Nat) (hz : Below B w3 z) => (World.cell?_of_block (a := ⟨b, j, none⟩) (hz.block b hbB) : z.cell? ⟨b, j, none⟩ = w3.cell? ⟨b, j, none⟩))
      have HEd := Lib.hid (show edsS p = (p.1.ed2, p.2.ed2) from rfl)
      obtain ⟨e1, he1⟩ : ∃ e, p.1.ed2 = e := ⟨_, rfl⟩
      obtain ⟨e2, he2⟩ : ∃ e, p.2.ed2 = e := ⟨_, rfl⟩
      rw [he1, he2] at HEd HSh
      obtain ⟨⟨p1i, p1g, p1A, p1n, p1c, p1l⟩, ⟨p2i, p2g, p2A, p2n, p2c, p2l⟩⟩ := p
      simp only [Bd.v, Bd.vals] at HSh
      have hki : (k : Int) < (n1 : Int) := by omega
      have hk0 : (0 : Int) ≤ (k : Int) := by omega
      clear hp q0 q1 q2 q3 q4 q5 HKid HShp hPb he1 he2
      go_upto_region 10 with fail
      refine wp_region_HB B (by kernel_rfl) (fun z0 K0 hs0 => ?_)
      have S0 : Below B wr z0 := K0.mono HI.out.2.1
      refine tkH 0 (v := ?tv0_13) S0 rfl (by kernel_rfl) ?tq0_13 (by kernel_rfl) (fun z5 hS => ?ty0_13) ?_
      case ty0_13 => go_simp; rfl
      case tq0_13 => exact fun _ _ _ h => h
      refine tkH 1 (v := ?tv1_14) S0 rfl (by kernel_rfl) ?tq1_14 (by kernel_rfl) (fun z5 hS => ?ty1_14) ?_
      case ty1_14 => go_simp; rfl
      case tq1_14 => exact fun _ _ _ h => h
      refine tkH 2 (v := ?tv2_15) S0 rfl (by kernel_rfl) ?tq2_15 (by kernel_rfl) (fun z5 hS => ?ty2_15) ?_
      case ty2_15 => go_simp; rfl
      case tq2_15 => exact fun _ _ _ h => h
      refine tkH 3 (v := ?tv3_16) S0 rfl (by kernel_rfl) ?tq3_16 (by kernel_rfl) (fun z5 hS => ?ty3_16) ?_
      case ty3_16 => go_simp; rfl
      case tq3_16 => exact fun _ _ _ h => h
      refine tkH 4 (v := ?tv4_17) S0 rfl (by kernel_rfl) ?tq4_17 (by kernel_rfl) (fun z5 hS => ?ty4_17) ?_
      case ty4_17 => go_simp; rfl
      case tq4_17 => exact fun _ _ _ h => h
      refine tkH 5 (v := ?tv5_18) S0 rfl (by kernel_rfl) ?tq5_18 (by kernel_rfl) (fun z5 hS => ?ty5_18) ?_
      case ty5_18 => have g0 := (HC1.out z5 (o + k * 6) (HI.out.1.trans hS)).trans HQ.out.1; have g1 := (HC1.out z5 (o + k * 6 + 1) (HI.out.1.trans hS)).trans HQ.out.2.1; have g2 := (HC1.out z5 (o + k * 6 + 2) (HI.out.1.trans hS)).trans HQ.out.2.2.1; go_simp; rfl
      case tq5_18 => exact fun _ _ _ h => h
      refine tkH 7 (v := ?tv7_19) S0 rfl (by kernel_rfl) ?tq7_19 (by kernel_rfl) (fun z5 hS => ?ty7_19) ?_
      case ty7_19 => go_simp; rfl
      case tq7_19 => exact fun _ _ _ h => h
      refine tkH 8 (v := ?tv8_20) S0 rfl (by kernel_rfl) ?tq8_20 (by kernel_rfl) (fun z5 hS => ?ty8_20) ?_
      case ty8_20 => go_simp; rfl
      case tq8_20 => exact fun _ _ _ h => h
      refine tkH 9 (v := ?tv9_21) S0 rfl (by kernel_rfl) ?tq9_21 (by kernel_rfl) (fun z5 hS => ?ty9_21) ?_
      case ty9_21 => go_simp; rfl
      case tq9_21 => exact fun _ _ _ h => h
      refine tkH 10 (v := ?tv10_22) S0 rfl (by kernel_rfl) ?tq10_22 (by kernel_rfl) (fun z5 hS => ?ty10_22) ?_
      case ty10_22 => go_simp; rfl
      case tq10_22 => exact fun _ _ _ h => h
      refine tkH 11 (v := ?tv11_23) S0 rfl (by kernel_rfl) ?tq11_23 (by kernel_rfl) (fun z5 hS => ?ty11_23) ?_
      case ty11_23 => have g0 := (HC1.out z5 (o + k * 6 + 3) (HI.out.1.trans hS)).trans HQ.out.2.2.2.1; have g1 := (HC1.out z5 (o + k * 6 + 4) (HI.out.1.trans hS)).trans HQ.out.2.2.2.2.1; have g2 := (HC1.out z5 (o + k * 6 + 5) (HI.out.1.trans hS)).trans HQ.out.2.2.2.2.2; go_simp; rfl
      case tq11_23 => exact fun _ _ _ h => h
      refine wpAnyH_one (i := 6) (by kernel_rfl) rfl (by kernel_rfl) (fun K hK => ?_)
      go_simp
      (with_reducible refine (HSh.out _ (HI.out.1.trans S0)).1.mono ?_)
      rintro e z1 ⟨⟨ai, ag, aA, an, ac, al⟩, he, hat, hb1⟩
      simp only [Bd.v, Bd.vals] at he
      subst he
      have HAt1 := Lib.hid hat
      have K1 := K0.trans (hb1.mono K0.size)
      have S1 : Below B wr z1 := K1.mono HI.out.2.1
      refine hK.out _ _ S1 ?_
      refine wpAnyH_one (i := 12) (by kernel_rfl) rfl (by kernel_rfl) (fun K hK => ?_)
      go_simp
      (with_reducible refine (HSh.out _ (HI.out.1.trans S1)).2.mono ?_)
      rintro e z2 ⟨⟨bi, bg, bA, bn, bc, bl⟩, he, hbt, hb2⟩
      simp only [Bd.v, Bd.vals] at he
      subst he
      have HAt2 := Lib.hid hbt
      have K2 := K1.trans (hb2.mono K1.size)
      have S2 : Below B wr z2 := K2.mono HI.out.2.1
      refine hK.out _ _ S2 ?_
      refine tkH 13 (v := ?tv13_24) S2 rfl (by kernel_rfl) ?tq13_24 (by kernel_rfl) (fun z5 hS => ?ty13_24) ?_
      case ty13_24 => go_simp; rfl
      case tq13_24 => exact fun _ _ _ h => h
      refine wpAnyH_one (i := 14) (by kernel_rfl) rfl (by kernel_rfl) (fun K hK => ?_)
      go_simp
      have S3 : Below B wr (z2.alloc (.cells #[.int .i64 ai, .bool ag, .slice aA an ac, .int .i64 bi, .bool bg, .slice bA bn bc] 41)) := S2.alloc (by have := S2.size; have := HI.out.2.1; omega) _
      refine hK.out _ _ S3 ?_
      refine wpAnyH_one (i := 15) (by kernel_rfl) rfl (by kernel_rfl) (fun K hK => ?_)
      have hsz0 := K0.size
      have hsz1 := hb1.size
      have hsz2 := hb2.size
      have HAt := Lib.hid (show Rg.At z2 (fun x => wr.heap.size ≤ x ∧ x < z2.heap.size) ((⟨ai, ag, aA, an, ac, al⟩ : Bd), (⟨bi, bg, bA, bn, bc, bl⟩ : Bd)) from ⟨hat.1.keep (fun x hx => ⟨⟨by have := hx.1; omega, by have := hx.2; omega⟩, hb2.block x hx.2⟩), hbt.1.wide (fun x hx => ⟨by have := hx.1; omega, hx.2⟩)⟩)
      refine step_app1R (q := ((⟨ai, ag, aA, an, ac, al⟩ : Bd), (⟨bi, bg, bA, bn, bc, bl⟩ : Bd))) rfl _ _ rfl (by rfl) (by rfl) HI.out.2.2.1 HI.out.2.1 K2 (HI.out.2.2.1.apart HI.out.2.1 (Nat.le_refl _) HAt.out) (by unfold maxRg; omega) ?_
      intro A6 c6 w6 hr6 hb6 hs6
      have HR6 := Lib.hid (And.intro hr6 (And.intro hb6 hs6))
      clear hr6 hb6 hs6 hat hbt hb1 hb2 K1 K2 S0 S1 S2 S3 hs0 K0 hsz0 hsz1 hsz2
      refine hK.out _ _ HR6.out.2.1 ?_
      refine wpAnyH_one (i := 16) (by kernel_rfl) rfl (by kernel_rfl) (fun K hK => ?_)
      go_simp
      refine hK.out _ _ HR6.out.2.1 ?_
      refine wpAnyH_end (by kernel_rfl) ?_ _
      have HG6 := Lib.hid (show (rs ++ [((⟨ai, ag, aA, an, ac, al⟩ : Bd), (⟨bi, bg, bA, bn, bc, bl⟩ : Bd))]).map edsR = (qs.map edsS).take (k + 1) from by
        rw [List.take_add_one, HPk.out, List.map_append, HI.out.2.2.2.1]
        congr 1
        simp only [Option.toList, List.map_cons, List.map_nil]
        rw [HEd.out]
        unfold edsR
        rw [HAt1.out.2.2, HAt2.out.2.2])
      have HGn := Lib.hid (show ∀ q ∈ rs ++ [((⟨ai, ag, aA, an, ac, al⟩ : Bd), (⟨bi, bg, bA, bn, bc, bl⟩ : Bd))], q.1.Nrm ∧ q.2.Nrm from fun q hq => by
        rcases List.mem_append.1 hq with h1 | h1
        · exact HI.out.2.2.2.2 q h1
        · rw [List.mem_singleton.1 h1]
          exact ⟨HAt1.out.2.1, HAt2.out.2.1⟩)
      go_wp2_with fail
      go_roundw
      case rel => exact ⟨k + 1, A6, c6, _, by omega, by go_num, by go_num, Lib.hid ⟨HI.out.1.trans HR6.out.2.1, Nat.le_trans HI.out.2.1 HR6.out.2.2, HR6.out.1, HG6.out, HGn.out⟩⟩
      case measure => simp [intOf]; omega
    · have hki : ¬ (k : Int) < (n1 : Int) := by omega
      have hkk : k = n1 := by omega
      have HMe := Lib.hid (show rs.map edsR = qs.map edsS from by rw [HI.out.2.2.2.1, List.take_of_length_le (by rw [List.length_map, HLn.out]; omega)])
      have key : GivePostB B0 w L (.returned (.tuple #[.slice A2 k c2, .int .i64 0])) wr := ⟨A2, k, c2, rs, rfl, (HI.out.2.2.1.set (fun b h1 h2 => ⟨h1, h2⟩)).wide (fun b hb => ⟨by have := hb.1; have := HZ3.out; omega, hb.2⟩), HMe.out ▸ HNf.out.1, fun z => by rw [HMe.out]; exact HNf.out.2 z, HI.out.2.2.2.2, HB3.out.trans (HI.out.1.mono HZ3.out)⟩
      clear hkk
      go_wp2_with fail
      exact bodyPost_ret (v := .tuple #[.slice A2 k c2, .int .i64 0]) (by simp [results, Try.results33, go_sem]) rfl key
end Go.Proofs.Ytpikjceodmepiaa


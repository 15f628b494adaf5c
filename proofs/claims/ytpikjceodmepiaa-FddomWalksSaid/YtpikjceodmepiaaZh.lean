import Derived.Test.YtpikjceodmepiaaZg
namespace Go.Proofs.Ytpikjceodmepiaa
open Go.RowKit Hb Hf
set_option linter.unusedVariables false
set_option linter.unusedSimpArgs false
attribute [local go_sem ↓] Go.wp_at_zero Go.wp_at_succ
/-! ### Next -/
def NextPostB (B : Nat) (w : World) (L : List R) (z : Int) (e : Ending) (w' : World) : Prop :=
  ∃ N, NF N ∧ (∀ k, Hf.mem k N ↔ Hf.mem k L) ∧ Below B w w' ∧
    ((nextP N (.num (z + 1)) = none ∧ e = .returned (.tuple #[.agg #[.bool false, .slice none 0 0], .bool false, .int .i64 0])) ∨
     (∃ k A c, nextP N (.num (z + 1)) = some (.num k) ∧ e = .returned (.tuple #[.agg #[.bool (decide (k < 0)), .slice A (digs W k.natAbs).length c], .bool true, .int .i64 0]) ∧ (nb k A c).At w' (Fr B w')))
def NextPost (w : World) (L : List R) (z : Int) (e : Ending) (w' : World) : Prop := NextPostB w.heap.size w L z e w'
structure NX (w : World) (B G n1 c1 K M : Nat) (A1 : Option Addr) (d : Bd) (qs : List Rg) (z : Int) (k : Nat) (wr : World) : Prop where
  bel : Below B w wr
  res : IBox wr (B + 1 + 1) false (.slice none 0 0)
  out : SetP wr (fun b => B + 5 ≤ b ∧ b < G) A1 n1 c1 qs
  low : EBox wr G d
  lim : d.At wr (Fr (B + 5) wr)
  nxt : nextP (qs.map edsR) (.num (z + 1)) = nextP ((qs.map edsR).drop k) (.num (z + 1))
theorem Bd.Nrm.is_nb {b : Bd} {v : Int} (h : b.Nrm) (hl : b.l.length = b.n) (he : b.ed = .num v) : b = nb v b.A b.c := by
  obtain ⟨i, g, A, n, c, l⟩ := b
  obtain ⟨t, ho, hd⟩ := h
  rcases t with t | t | t
  · rw [Bd.ed_lo (by rw [t]; omega)] at he; cases he
  · rw [Bd.ed_zero t] at he
    injection he with he
    rw [he] at hd
    obtain ⟨h1, h2⟩ := hd
    simp only at t h1 h2 hl
    subst t
    subst h1
    subst h2
    subst hl
    rfl
  · rw [Bd.ed_hi (by rw [t]; omega)] at he; cases he
theorem bits_short {w : World} {B c : Nat} {A : Option Addr} {v : Int} (h : (nb v A c).At w (Fr B w)) (hv : (digs W v.natAbs).length ≤ 128) :
    ∃ bl : Nat, bl ≤ 4096 ∧ Calls Try.prog 49 #[.agg #[.bool (decide (v < 0)), .slice A (digs W v.natAbs).length c]] w fun e w' => e = .returned (.int .i64 bl) ∧ Below w.heap.size w w' := by
  refine ⟨blen (nv W (digs W v.natAbs)), ?_, bits_any (decide (v < 0)) (h.lim.sl (fun b hb => hb.2)) (by omega) (Nat.le_refl _)⟩
  have h2 := short_of (nv_lt (dig_digs (b := W) (by decide) v.natAbs)) hv
  omega
theorem next_skip {L : List R} {k : Nat} {r : R} {low : Ed} (h : L[k]? = some r) (hc : ¬ leE low r.2) : nextP (L.drop k) low = nextP (L.drop (k + 1)) low := by
  have hk := (List.getElem?_eq_some_iff.1 h).1
  rw [List.drop_eq_getElem_cons hk, (List.getElem?_eq_some_iff.1 h).2]
  exact if_neg hc
theorem next_hit {L : List R} {k : Nat} {r : R} {low : Ed} (h : L[k]? = some r) (hc : leE low r.2) : nextP (L.drop k) low = some (if leE r.1 low then low else r.1) := by
  have hk := (List.getElem?_eq_some_iff.1 h).1
  rw [List.drop_eq_getElem_cons hk, (List.getElem?_eq_some_iff.1 h).2]
  exact if_pos hc
set_option maxRecDepth 100000 in
set_option maxHeartbeats 8000000 in
theorem Next_ok {w : World} {P : Nat → Prop} {A A' : Option Addr} {n c n' c' K M : Nat} {g : Bool} {l : List Nat} {ps : List Rg} {z : Int} (h : SIn w P A n c ps K M) (hl : LimP w P A' n' c' l) (hn : n' ≤ 126) (hP : ∀ b, P b → b < w.heap.size) (hK : K ≤ 1000) (hM : M ≤ 126) (hz : ival g l = z) :
    Calls Try.prog 25 #[.slice A n c, .agg #[.bool g, .slice A' n' c']] w (NextPost w (ps.map edsR) z) := by
  obtain ⟨B, hB⟩ : ∃ B, w.heap.size = B := ⟨_, rfl⟩
  have HB := Lib.hid hB
  obtain ⟨W0, hW0⟩ : ∃ W0, ((((w.alloc (.cells #[.slice A n c] 22)).alloc (.cells #[.bool g, .slice A' n' c'] 25)).alloc (.cells #[.bool false, .slice none 0 0] 25)).alloc (.cells #[.bool g, .slice A' n' c'] 25)).alloc (.cells #[.pointer (some ⟨w.heap.size, 0, none⟩)] 71) = W0 := ⟨_, rfl⟩
  have hbe : Below w.heap.size w W0 := by rw [← hW0]; exact (((((Below.refl _ _).alloc (Nat.le_refl _) _).alloc (by simp) _).alloc (by simp; omega) _).alloc (by simp; omega) _).alloc (by simp; omega) _
  have z0 : W0.heap.size = w.heap.size + 5 := by rw [← hW0]; simp
  have v0 : VBox W0 w.heap.size A n c := by
    have h0 : VBox (w.alloc (.cells #[.slice A n c] 22)) w.heap.size A n c := heap_alloc_new w _
    rw [← hW0]
    exact ((((((Below.refl _ _).alloc (Nat.le_refl _) _).alloc (by simp) _).alloc (by simp) _).alloc (by simp) _).block w.heap.size (by simp)).trans h0
  have i1 : IBox W0 (w.heap.size + 1) g (.slice A' n' c') := by
    have h0 := IBox.of_new (w := w.alloc (.cells #[.slice A n c] 22)) g (.slice A' n' c')
    rw [World.size_alloc] at h0
    rw [← hW0]
    exact (((((Below.refl _ _).alloc (Nat.le_refl _) _).alloc (by simp) _).alloc (by simp) _).block (w.heap.size + 1) (by simp)).trans h0
  have i2 : IBox W0 (w.heap.size + 2) false (.slice none 0 0) := by
    have h0 := IBox.of_new (w := (w.alloc (.cells #[.slice A n c] 22)).alloc (.cells #[.bool g, .slice A' n' c'] 25)) false (.slice none 0 0)
    simp only [World.size_alloc] at h0
    rw [← hW0]
    exact ((((Below.refl _ _).alloc (Nat.le_refl _) _).alloc (by simp) _).block (w.heap.size + 2) (by simp)).trans h0
  have i3 : IBox W0 (w.heap.size + 3) g (.slice A' n' c') := by
    have h0 := IBox.of_new (w := ((w.alloc (.cells #[.slice A n c] 22)).alloc (.cells #[.bool g, .slice A' n' c'] 25)).alloc (.cells #[.bool false, .slice none 0 0] 25)) g (.slice A' n' c')
    simp only [World.size_alloc] at h0
    rw [← hW0]
    exact (((Below.refl _ _).alloc (Nat.le_refl _) _).block (w.heap.size + 3) (by simp)).trans h0
  have p0 : W0.cell? ⟨w.heap.size + 1 + 1 + 1 + 1, 0, none⟩ = some (.pointer (some ⟨w.heap.size, 0, none⟩)) := by
    have := heap_alloc_new ((((w.alloc (.cells #[.slice A n c] 22)).alloc (.cells #[.bool g, .slice A' n' c'] 25)).alloc (.cells #[.bool false, .slice none 0 0] 25)).alloc (.cells #[.bool g, .slice A' n' c'] 25)) (.cells #[.pointer (some ⟨w.heap.size, 0, none⟩)] 71)
    simp only [World.size_alloc] at this
    rw [← hW0, cell_of_row _ _ 0 _ _ (0, 0) this]; rfl
  have hl2 := hl.keep (Q := P) (fun b hb2 => ⟨hb2, hbe.block b (hP b hb2)⟩)
  have hin : InIn W0 (some ⟨w.heap.size + 1 + 1 + 1, 0, none⟩) [⟨g, A', n', c', l⟩] := ⟨fun j x hx => by
    match j with
    | 0 =>
      cases hx
      exact ⟨_, 0, rfl, by omega, i3.cells⟩
    | j + 1 => simp at hx, fun x hx => by
    rw [List.mem_singleton.1 hx]
    exact ⟨hl2.sl (fun b hb2 => by have := hP b hb2; omega), by simp only; omega⟩⟩
  have HT := Lib.hid (take1 (K := K) (M := M) (r := 1) (ci := 1) (h.keep (Q := P) (fun b hb2 => ⟨hb2, hbe.block b (hP b hb2)⟩)) (fun b hb2 => ⟨by have := hP b hb2; omega, by have := hP b hb2; omega⟩) v0 p0 (by omega) (by omega) hin (fun x hx => by rw [List.mem_singleton.1 hx]; exact lng_of hl.dig (by rw [hl.len]; omega)) rfl (by omega) hK (by omega))
  have HI0 := Lib.hid (And.intro hbe (And.intro i1 (And.intro i2 z0)))
  have HKM := Lib.hid (And.intro hK (And.intro hM hn))
  have HP := Lib.hid hP
  have HL := Lib.hid hl
  have HV := Lib.hid hz
  unfold NextPost
  rw [hB] at hW0 HT HI0 ⊢
  subst hW0
  clear h hP hl hl2 hin hbe v0 i1 i2 i3 p0 z0 hK hM hB hz hn
  go_enter Try.func25, Try.ntmps25
  go_wp2_with fail
  rw [HB.out]
  (with_reducible refine HT.out.mono ?_)
  rintro e w1 ⟨rfl, hch, A1, n1, c1, qs, hv1, ho1, hm1⟩
  rw [HI0.out.2.2.2] at ho1
  have HO1 := Lib.hid (And.intro hv1 (And.intro ho1 hm1))
  have HZ1 := Lib.hid (show B + 5 ≤ w1.heap.size by have := hch.size; rw [HI0.out.2.2.2] at this; exact this)
  have HBe1 := Lib.hid (show Below B w w1 from (HI0.out.1.mono (by have := HB.out; omega)).trans (hch.below (by rw [HI0.out.2.2.2]; omega) (fun ad had => by simp at had; omega)))
  have HN1 := Lib.hid (show IBox w1 (B + 1) g (.slice A' n' c') from (hch.block (B + 1) (by rw [HI0.out.2.2.2]; omega) (by simp)).trans HI0.out.2.1)
  have HR1 := Lib.hid (show IBox w1 (B + 1 + 1) false (.slice none 0 0) from (hch.block (B + 2) (by rw [HI0.out.2.2.2]; omega) (by simp)).trans HI0.out.2.2.1)
  have HStp := Lib.hid (step_fr (w := w1) (b := ⟨0, g, A', n', c', l⟩) (P := fun x => x < w1.heap.size) 1 (.inl rfl) ⟨HL.out.keep (fun x hx => ⟨by have := HP.out x hx; have := HB.out; have := HZ1.out; omega, HBe1.out.block x (by have := HP.out x hx; have := HB.out; omega)⟩), by simp, by simp⟩ (fun _ h => h) (.inr (.inl rfl)) (fun h => absurd rfl h) (by have := HKM.out.2.2; simp only; omega))
  simp only [Bd.v, Bd.vals] at HStp
  obtain ⟨v0, _⟩ := hv1.cell
  obtain ⟨x0, x1⟩ := HN1.out.cells
  have HLq := Lib.hid (show (qs.map edsR).length = n1 ∧ n1 ≤ 1000 from ⟨by rw [List.length_map]; exact ho1.row.len, Nat.le_trans ho1.len HKM.out.1⟩)
  have hn9 : n1 ≤ 1000 := HLq.out.2
  clear hch hv1 ho1 hm1 HI0 HT
  go_wp2_with (go_at_call 51; (with_reducible refine HStp.out.mono ?_); rintro e w2 ⟨⟨di, dg, dA, dn, dc, dl⟩, he, hd1, hd2, hd3, hb2⟩; simp only [Bd.v, Bd.vals] at he; subst he; have HD := Lib.hid (And.intro hd1 (And.intro hd2 hd3)); have HB2 := Lib.hid hb2; have v2 := (VBox.cell ((hb2.alloc hb2.size (.cells #[.int .i64 di, .bool dg, .slice dA dn dc] 39)).block B HO1.out.1.lt |>.trans HO1.out.1)).1; clear hd1 hd2 hd3 hb2 x0 x1 v0)
  obtain ⟨G, hG⟩ : ∃ G, w2.heap.size = G := ⟨_, rfl⟩
  have hGB : B + 5 ≤ G := by have := HB2.out.size; have := HZ1.out; omega
  have HCl := Lib.hid (show Below w2.heap.size w2 (w2.alloc (.cells #[.int .i64 di, .bool dg, .slice dA dn dc] 39)) from (Below.refl _ _).alloc (Nat.le_refl _) _)
  have HDe := Lib.hid (show Bd.ed ⟨di, dg, dA, dn, dc, dl⟩ = .num (z + 1) from by
    rw [HD.out.2.2, Bd.ed_zero (b := ⟨0, g, A', n', c', l⟩) rfl]
    show Ed.num (ival g l + 1) = _
    rw [HV.out])
  have HNX := Lib.hid (show NX w B w2.heap.size n1 c1 K M A1 ⟨di, dg, dA, dn, dc, dl⟩ qs z 0 (w2.alloc (.cells #[.int .i64 di, .bool dg, .slice dA dn dc] 39)) from
    ⟨(HBe1.out.trans (HB2.out.mono (by have := HZ1.out; omega))).trans (HCl.out.mono (by omega)), (HR1.out.below HB2.out).below HCl.out, HO1.out.2.1.set.keep (Q := fun b => B + 5 ≤ b ∧ b < w2.heap.size) (fun b hb => ⟨⟨by have := hb.1; omega, by have := hb.2; have := HB2.out.size; omega⟩, (HCl.out.block b (by have := hb.2; have := HB2.out.size; omega)).trans (HB2.out.block b hb.2)⟩), EBox.new w2 ⟨di, dg, dA, dn, dc, dl⟩, (HD.out.1.keep (Q := Fr (B + 5) w2) (fun x hx => ⟨⟨by have := hx.1; have := HZ1.out; omega, hx.2⟩, rfl⟩) |>.lift HCl.out), by rw [List.drop_zero]⟩)
  have HNf := Lib.hid (And.intro HO1.out.2.1.nf (And.intro HO1.out.2.1.bnd HO1.out.2.2))
  have HDn := Lib.hid HD.out.2.1
  have HGq := Lib.hid HO1.out.2.1.gd
  rw [hG] at HNX ⊢
  clear HStp HN1 HR1 HB2 HCl HD HO1 HBe1 v2 hG
  go_loopw [24] (fun vi wr => ∃ k, k ≤ n1 ∧ vi = .int .i64 (k : Nat) ∧ Hid (NX w B G n1 c1 K M A1 ⟨di, dg, dA, dn, dc, dl⟩ qs z k wr)) (fun vi _ => n1 - (intOf vi).toNat)
  case atStart => exact ⟨0, Nat.zero_le _, rfl, HNX⟩
  case round =>
    obtain ⟨k, hk, rfl, HI⟩ := hrel
    clear HNX
    by_cases hkn : k < n1
    · obtain ⟨p, hp⟩ : ∃ p, qs[k]? = some p := ⟨qs[k]'(by have := HLq.out.1; rw [List.length_map] at this; omega), by simp⟩
      obtain ⟨b0, o0, rfl, hPb, i0, i1, i2, i3, i4, i5⟩ := HI.out.out.row.at_ hp
      have hpm := List.mem_of_getElem? hp
      have HGd := Lib.hid (HGq.out p hpm)
      have HKp := Lib.hid (HI.out.out.kid p hpm)
      have HPk := Lib.hid (show (qs.map edsR)[k]? = some (edsR p) by simp [hp])
      have hX := RBox.new wr p
      have hgl0 := HI.out.low.lt
      have hlb : b0 < wr.heap.size := by omega
      have HBx := Lib.hid (show Below wr.heap.size wr (wr.alloc (.cells (cells6 p).toArray 41)) from (Below.refl _ _).alloc (Nat.le_refl _) _)
      have HC1 := Lib.hid (fun y (hy : Below wr.heap.size wr y) => fcmp_any (w := y) (a := p.2) (b := ⟨di, dg, dA, dn, dc, dl⟩) (P := fun x => x < y.heap.size) (HKp.out.b.keep (fun x hx => ⟨by have := hy.size; have := hx.2; omega, hy.block x (by have := hx.2; omega)⟩)) (HI.out.lim.keep (fun x hx => ⟨by have := hy.size; have := hx.2; omega, hy.block x hx.2⟩)) (fun _ h => h) HGd.out.1.2.tri HDn.out.tri)
      have HC2 := Lib.hid (fun y (hy : Below wr.heap.size wr y) => fcmp_any (w := y) (a := p.1) (b := ⟨di, dg, dA, dn, dc, dl⟩) (P := fun x => x < y.heap.size) (HKp.out.a.keep (fun x hx => ⟨by have := hy.size; have := hx.2; omega, hy.block x (by have := hx.2; omega)⟩)) (HI.out.lim.keep (fun x hx => ⟨by have := hy.size; have := hx.2; omega, hy.block x hx.2⟩)) (fun _ h => h) HGd.out.1.1.tri HDn.out.tri)
      have HI1 := Lib.hid (show ¬ cmpB p.2 ⟨di, dg, dA, dn, dc, dl⟩ < 0 ↔ leE (.num (z + 1)) (edsR p).2 from by rw [cmpB_le HDn.out.tri HGd.out.1.2.tri, HDe.out]; rfl)
      have HI2 := Lib.hid (show cmpB p.1 ⟨di, dg, dA, dn, dc, dl⟩ ≤ 0 ↔ leE (edsR p).1 (.num (z + 1)) from by rw [cmpB_ge HGd.out.1.1.tri HDn.out.tri, HDe.out]; rfl)
      obtain ⟨x, hx⟩ : ∃ x, cmpB p.2 ⟨di, dg, dA, dn, dc, dl⟩ = x := ⟨_, rfl⟩
      obtain ⟨y, hy⟩ : ∃ x, cmpB p.1 ⟨di, dg, dA, dn, dc, dl⟩ = x := ⟨_, rfl⟩
      rw [hx] at HC1 HI1
      rw [hy] at HC2 HI2
      clear hx hy
      obtain ⟨⟨p1i, p1g, p1A, p1n, p1c, p1l⟩, ⟨p2i, p2g, p2A, p2n, p2c, p2l⟩⟩ := p
      have HX := Lib.hid hX
      simp only [cells6_eq] at HX HBx
      simp only [Bd.v, Bd.vals] at HC1 HC2
      simp only at i0 i1 i2 i3 i4 i5
      have hLb := HI.out.low.below HBx.out
      obtain ⟨y0, y1, y2⟩ := hLb.cells
      obtain ⟨z0, z1, z2, z3, z4, z5⟩ := HX.out.cells
      simp only at y0 y1 y2 z0 z1 z2 z3 z4 z5
      have hki : (k : Int) < (n1 : Int) := by omega
      have hk0 : (0 : Int) ≤ (k : Int) := by omega
      clear hp hX hPb hpm hLb
      by_cases hx0 : x < 0
      · go_wp2_with (go_at_call 46; (with_reducible refine (HC1.out _ HBx.out).mono ?_); rintro e u7 ⟨rfl, hg7⟩; have HB7 := Lib.hid (HBx.out.trans (hg7.bel.mono HBx.out.size)))
        have HK7 := Lib.hid (show NX w B G n1 c1 K M (some ⟨b0, o0, none⟩) ⟨di, dg, dA, dn, dc, dl⟩ qs z (k + 1) u7 from
          ⟨HI.out.bel.trans (HB7.out.mono (by have := HI.out.bel.size; have := HB.out; omega)), HI.out.res.below HB7.out, HI.out.out.keep (fun x hx => ⟨hx, HB7.out.block x (by have := hx.2; omega)⟩), HI.out.low.below HB7.out, HI.out.lim.lift HB7.out, by rw [HI.out.nxt]; exact next_skip HPk.out (fun h => by have h2 := HI1.out.2 h; omega)⟩)
        exact ⟨⟨k + 1, by omega, by go_num, HK7⟩, by simp [intOf]; omega⟩
      · have hc1 : leE (.num (z + 1)) (edsR ((⟨p1i, p1g, p1A, p1n, p1c, p1l⟩ : Bd), (⟨p2i, p2g, p2A, p2n, p2c, p2l⟩ : Bd))).2 := HI1.out.1 hx0
        by_cases hy0 : y ≤ 0
        · have HN := Lib.hid (show nextP (qs.map edsR) (.num (z + 1)) = some (.num (z + 1)) from by rw [HI.out.nxt, next_hit HPk.out hc1, if_pos (HI2.out.1 hy0)])
          clear hc1
          go_wp2_with (first
            | (go_at_call 46; (with_reducible refine (HC1.out _ HBx.out).mono ?_); rintro e u7 ⟨rfl, hg7⟩; have HB7 := Lib.hid (HBx.out.trans (hg7.bel.mono HBx.out.size)); have hL7 := HI.out.low.below HB7.out; have hX7 := HX.out.below hg7.bel; clear y0 y1 y2 z0 z1 z2 z3 z4 z5; obtain ⟨y0, y1, y2⟩ := hL7.cells; obtain ⟨z0, z1, z2, z3, z4, z5⟩ := hX7.cells; simp only at y0 y1 y2 z0 z1 z2 z3 z4 z5; clear hL7 hX7 hg7)
            | (go_at_call 46; (with_reducible refine (HC2.out _ HB7.out).mono ?_); rintro e u8 ⟨rfl, hg8⟩; have HB8 := Lib.hid (HB7.out.trans (hg8.bel.mono HB7.out.size)); have hL8 := HI.out.low.below HB8.out; clear y0 y1 y2 z0 z1 z2 z3 z4 z5; obtain ⟨y0, y1, y2⟩ := hL8.cells; simp only at y0 y1 y2; clear hL8 hg8))
          obtain ⟨v, hv⟩ : ∃ v, z + 1 = v := ⟨_, rfl⟩
          have hvl : (digs W v.natAbs).length ≤ 128 := by
            have h1 := digs_le_n (neg := g) HL.out.dig
            rw [HV.out, HL.out.len] at h1
            have h2 := digs_step (k := 1) (Nat.le_trans h1 HKM.out.2.2) (.inl rfl)
            rw [hv] at h2
            omega
          have hnb := HDn.out.is_nb HI.out.lim.lim.len (HDe.out.trans (by rw [hv]))
          have HL8 := Lib.hid (HI.out.lim.lift HB8.out)
          rw [hnb] at HL8
          unfold nb at hnb
          injection hnb with e1 e2 e3 e4 e5 e6
          try simp only at e1 e2 e4 e6
          rw [hv] at HN
          have HRs := Lib.hid (HI.out.res.below HB8.out)
          have HBl := Lib.hid (HI.out.bel.trans (HB8.out.mono (by have := HI.out.bel.size; have := HB.out; omega)))
          have HLo := Lib.hid (HI.out.low.below HB8.out)
          clear HC1 HC2 HI1 HI2 HI HDe HDn HGd HKp
          subst e1
          subst e2
          subst e4
          subst e6
          obtain ⟨bl, hbl, hbt⟩ := bits_short HL8.out hvl
          have HBt := Lib.hid hbt
          have hb4 : ¬ (4096 < (bl : Int)) := by omega
          clear hbt
          go_wp2_with (go_at_call 49; (with_reducible refine HBt.out.mono ?_); rintro e u9 ⟨rfl, hb9⟩; have HB9 := Lib.hid hb9; have hL9 := HLo.out.below hb9; have hR9 := HRs.out.below hb9; have HR9 := Lib.hid hR9; clear y0 y1 y2; obtain ⟨y0, y1, y2⟩ := hL9.cells; simp only at y0 y1 y2; obtain ⟨q0, q1⟩ := hR9.cells; obtain ⟨f0, f1⟩ := hR9.frozens; clear hL9 hR9 hb9)
          have HSt := Lib.hid (HR9.out.set2 (decide (v < 0)) (.slice dA (digs W v.natAbs).length dc))
          have hlt := HR9.out.lt
          have hz9 := HB9.out.size
          have hz8 := HBl.out.size
          have HBy := Lib.hid ((HBl.out.trans (HB9.out.mono (by have := HB.out; omega))).grown HSt.out.2 (by have := HB.out; omega) (fun j e => by injection e with e; have := HB.out; omega))
          have HA9 := Lib.hid (HL8.out.lift HB9.out)
          have hzs := HSt.out.2.size
          have key : NextPostB B w (ps.map edsR) z (.returned (.tuple #[.agg #[.bool (decide (v < 0)), .slice dA (digs W v.natAbs).length dc], .bool true, .int .i64 0])) ((u9.setCell ⟨B + 1 + 1, 0, none⟩ (.bool (decide (v < 0)))).setCell ⟨B + 1 + 1, 1, none⟩ (.slice dA (digs W v.natAbs).length dc)) :=
            ⟨qs.map edsR, HNf.out.1, HNf.out.2.2, HBy.out, .inr ⟨v, dA, dc, by rw [hv]; exact HN.out, rfl, HA9.out.keep (fun x hx => ⟨⟨by have := hx.1; omega, by have := hx.2; omega⟩, HSt.out.2.block x hx.2 (fun e => by injection e with e; have := hx.1; omega)⟩)⟩⟩
          clear hzs
          generalize (u9.setCell ⟨B + 1 + 1, 0, none⟩ (.bool (decide (v < 0)))).setCell ⟨B + 1 + 1, 1, none⟩ (.slice dA (digs W v.natAbs).length dc) = w9 at *
          obtain ⟨s0, s1⟩ := HSt.out.1.cells
          exact bodyPost_ret (v := .tuple #[.agg #[.bool (decide (v < 0)), .slice dA (digs W v.natAbs).length dc], .bool true, .int .i64 0]) (by simp [results, Try.results25, go_sem, s0, s1]) rfl key
        · obtain ⟨v, hv⟩ : ∃ v, (edsR ((⟨p1i, p1g, p1A, p1n, p1c, p1l⟩ : Bd), (⟨p2i, p2g, p2A, p2n, p2c, p2l⟩ : Bd))).1 = .num v := by
            have h1 := HI.out.nxt
            rw [next_hit HPk.out hc1, if_neg (fun h => hy0 (HI2.out.2 h))] at h1
            rcases next_spec (n := z) HNf.out.1 with ⟨h2, _⟩ | ⟨q, h2, _⟩
            · rw [h2] at h1; cases h1
            · rw [h2] at h1; injection h1 with h1; exact ⟨q, h1.symm⟩
          have HN := Lib.hid (show nextP (qs.map edsR) (.num (z + 1)) = some (.num v) from by rw [HI.out.nxt, next_hit HPk.out hc1, if_neg (fun h => hy0 (HI2.out.2 h)), hv])
          have hvl : (digs W v.natAbs).length ≤ 128 := by
            have h1 := (HNf.out.2.1 _ (List.mem_of_getElem? HPk.out)).1
            rw [hv] at h1
            have h2 : (digs W v.natAbs).length ≤ M := h1
            have := HKM.out.2.1
            omega
          have hnb := HGd.out.1.1.is_nb HKp.out.a.lim.len hv
          have HLa := Lib.hid HKp.out.a
          rw [hnb] at HLa
          unfold nb at hnb
          injection hnb with e1 e2 e3 e4 e5 e6
          clear hc1 hv HGd HKp HPk
          subst e1
          subst e2
          subst e4
          subst e6
          go_wp2_with (first
            | (go_at_call 46; (with_reducible refine (HC1.out _ HBx.out).mono ?_); rintro e u7 ⟨rfl, hg7⟩; have HB7 := Lib.hid (HBx.out.trans (hg7.bel.mono HBx.out.size)); have hL7 := HI.out.low.below HB7.out; have hX7 := HX.out.below hg7.bel; clear y0 y1 y2 z0 z1 z2 z3 z4 z5; obtain ⟨y0, y1, y2⟩ := hL7.cells; obtain ⟨z0, z1, z2, z3, z4, z5⟩ := hX7.cells; simp only at y0 y1 y2 z0 z1 z2 z3 z4 z5; have HX7 := Lib.hid hX7; clear hL7 hX7 hg7)
            | (go_at_call 46; (with_reducible refine (HC2.out _ HB7.out).mono ?_); rintro e u8 ⟨rfl, hg8⟩; have HB8 := Lib.hid (HB7.out.trans (hg8.bel.mono HB7.out.size)); have hL8 := HI.out.low.below HB8.out; clear y0 y1 y2 z0 z1 z2 z3 z4 z5; obtain ⟨y0, y1, y2⟩ := hL8.cells; simp only at y0 y1 y2; have hX8 := HX7.out.below hg8.bel; obtain ⟨z0, z1, z2, z3, z4, z5⟩ := hX8.cells; simp only at z0 z1 z2 z3 z4 z5; obtain ⟨f0, f1, f2⟩ := hL8.frozens; clear hL8 hg8 hX8))
          have HSg := Lib.hid ((HI.out.low.below HB8.out).set3 (nb v p1A p1c))
          simp only [nb] at HSg
          have HR0 := Lib.hid (HI.out.res.below HB8.out)
          have HB0 := Lib.hid (HI.out.bel.trans (HB8.out.mono (by have := HI.out.bel.size; have := HB.out; omega)))
          have HA0 := Lib.hid (HLa.out.keep (Q := fun b => B + 5 ≤ b ∧ b < G) (fun x hx => ⟨hx, HB8.out.block x (by have := hx.2; omega)⟩))
          have hgl := HI.out.low.lt
          have hno : ∀ x, B + 5 ≤ x → x < wr.heap.size → True := fun _ _ _ => trivial
          clear HC1 HC2 HI1 HI2 HI hno y0 y1 y2 z0 z1 z2 z3 z4 z5 f0 f1 f2
          generalize ((u8.setCell ⟨G, 0, none⟩ (.int .i64 0)).setCell ⟨G, 1, none⟩ (.bool (decide (v < 0)))).setCell ⟨G, 2, none⟩ (.slice p1A (digs W v.natAbs).length p1c) = u8s at *
          have hz8s := HSg.out.2.size
          have hz88 := HB8.out.size
          have HL8 := Lib.hid (show (nb v p1A p1c).At u8s (Fr (B + 5) u8s) from HA0.out.keep (fun x hx => ⟨⟨hx.1, by have := hx.2; omega⟩, HSg.out.2.block x (by have := hx.2; omega) (fun e => by injection e with e; have := hx.2; omega)⟩))
          have HRs := Lib.hid (HR0.out.gro HSg.out.2 (by omega))
          have HBl := Lib.hid (HB0.out.grown HSg.out.2 (by have := HB0.out.size; have := HB.out; omega) (fun j e => by injection e with e; have := HB.out; omega))
          have HLo := Lib.hid HSg.out.1
          obtain ⟨y0, y1, y2⟩ := HLo.out.cells
          simp only at y0 y1 y2
          obtain ⟨bl, hbl, hbt⟩ := bits_short HL8.out hvl
          have HBt := Lib.hid hbt
          have hb4 : ¬ (4096 < (bl : Int)) := by omega
          clear hbt
          go_wp2_with (go_at_call 49; (with_reducible refine HBt.out.mono ?_); rintro e u9 ⟨rfl, hb9⟩; have HB9 := Lib.hid hb9; have hL9 := HLo.out.below hb9; have hR9 := HRs.out.below hb9; have HR9 := Lib.hid hR9; clear y0 y1 y2; obtain ⟨y0, y1, y2⟩ := hL9.cells; simp only at y0 y1 y2; obtain ⟨q0, q1⟩ := hR9.cells; obtain ⟨f0, f1⟩ := hR9.frozens; clear hL9 hR9 hb9)
          have HSt := Lib.hid (HR9.out.set2 (decide (v < 0)) (.slice p1A (digs W v.natAbs).length p1c))
          have hlt := HR9.out.lt
          have hz9 := HB9.out.size
          have hz8 := HBl.out.size
          have HBy := Lib.hid ((HBl.out.trans (HB9.out.mono (by have := HB.out; omega))).grown HSt.out.2 (by have := HB.out; omega) (fun j e => by injection e with e; have := HB.out; omega))
          have HA9 := Lib.hid (HL8.out.lift HB9.out)
          have hzs := HSt.out.2.size
          have key : NextPostB B w (ps.map edsR) z (.returned (.tuple #[.agg #[.bool (decide (v < 0)), .slice p1A (digs W v.natAbs).length p1c], .bool true, .int .i64 0])) ((u9.setCell ⟨B + 1 + 1, 0, none⟩ (.bool (decide (v < 0)))).setCell ⟨B + 1 + 1, 1, none⟩ (.slice p1A (digs W v.natAbs).length p1c)) :=
            ⟨qs.map edsR, HNf.out.1, HNf.out.2.2, HBy.out, .inr ⟨v, p1A, p1c, HN.out, rfl, HA9.out.keep (fun x hx => ⟨⟨by have := hx.1; omega, by have := hx.2; omega⟩, HSt.out.2.block x hx.2 (fun e => by injection e with e; have := hx.1; omega)⟩)⟩⟩
          clear hzs
          generalize (u9.setCell ⟨B + 1 + 1, 0, none⟩ (.bool (decide (v < 0)))).setCell ⟨B + 1 + 1, 1, none⟩ (.slice p1A (digs W v.natAbs).length p1c) = w9 at *
          obtain ⟨s0, s1⟩ := HSt.out.1.cells
          exact bodyPost_ret (v := .tuple #[.agg #[.bool (decide (v < 0)), .slice p1A (digs W v.natAbs).length p1c], .bool true, .int .i64 0]) (by simp [results, Try.results25, go_sem, s0, s1]) rfl key
    · have hki : ¬ (k : Int) < (n1 : Int) := by omega
      have hnn : nextP (qs.map edsR) (.num (z + 1)) = none := by
        rw [HI.out.nxt, List.drop_of_length_le (by rw [HLq.out.1]; omega)]
        rfl
      have HSt := Lib.hid (HI.out.res.set2 false (.slice none 0 0))
      have hlt := HI.out.res.lt
      have hbs := HI.out.bel.size
      have HBy := Lib.hid (HI.out.bel.grown HSt.out.2 (by have := HB.out; omega) (fun j e => by injection e with e; have := HB.out; omega))
      obtain ⟨y0, y1⟩ := HI.out.res.cells
      obtain ⟨f0, f1⟩ := HI.out.res.frozens
      go_wp2_with fail
      have key : NextPostB B w (ps.map edsR) z (.returned (.tuple #[.agg #[.bool false, .slice none 0 0], .bool false, .int .i64 0])) ((wr.setCell ⟨B + 1 + 1, 0, none⟩ (.bool false)).setCell ⟨B + 1 + 1, 1, none⟩ (.slice none 0 0)) :=
        ⟨qs.map edsR, HNf.out.1, HNf.out.2.2, HBy.out, .inl ⟨hnn, rfl⟩⟩
      generalize (wr.setCell ⟨B + 1 + 1, 0, none⟩ (.bool false)).setCell ⟨B + 1 + 1, 1, none⟩ (.slice none 0 0) = w9 at *
      obtain ⟨s0, s1⟩ := HSt.out.1.cells
      exact bodyPost_ret (v := .tuple #[.agg #[.bool false, .slice none 0 0], .bool false, .int .i64 0]) (by simp [results, Try.results25, go_sem, s0, s1]) rfl key
end Go.Proofs.Ytpikjceodmepiaa

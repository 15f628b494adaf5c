import Derived.Test.YtpikjceodmepiaaGreatDoorYmb
import Derived.Deep.LoopGhost
set_option linter.unusedVariables false
set_option linter.unusedSimpArgs false
namespace Go.Proofs.YtpikjceodmepiaaGreatDoor
open Go.RowKit Hb Hf
set_option linter.unusedVariables false
set_option linter.unusedSimpArgs false
attribute [local go_sem ↓] Go.wp_at_zero Go.wp_at_succ
/-! ### piece -/
/-- an end that may be reckoned with: normal, short -/
structure GdE (b : Bd) : Prop where
  nrm : b.Nrm
  sml : b.n ≤ 33554432
def PiecePost (w : World) (P : Nat → Prop) (L : List R) (low : Ed) (en : Ending) (w' : World) : Prop :=
  ∃ d : Bd, en = .returned (.tuple #[.bool (pieceP L low).1, d.v]) ∧ d.At w' (Or P w.heap.size w') ∧ d.Nrm ∧ d.ed = (pieceP L low).2 ∧ Below w.heap.size w w'
theorem piece_drop {L : List R} {low : Ed} {k : Nat} {r : R} (hk : L[k]? = some r) (h : pieceP (L.drop k) low = pieceP L low) : pieceP L low = if leE r.1 low then (if leE low r.2 then (true, r.2) else pieceP (L.drop (k + 1)) low) else (false, shE (-1) r.1) := by
  have hl : k < L.length := (List.getElem?_eq_some_iff.1 hk).1
  have e : L.drop k = r :: L.drop (k + 1) := by
    rw [List.drop_eq_getElem_cons hl]
    congr 1
    rw [List.getElem?_eq_getElem hl] at hk
    exact Option.some.inj hk
  rw [← h, e, pieceP_cons]
set_option maxRecDepth 100000 in
set_option maxHeartbeats 4000000 in
theorem piece_any {w : World} {P PL : Nat → Prop} {A : Option Addr} {n c : Nat} {ps : List Rg} {low : Bd} (h : SetP w P A n c ps) (hg : ∀ p ∈ ps, Gd p) (hl : low.At w PL) (hn : low.Nrm) (hP : ∀ b, P b → b < w.heap.size) (hPL : ∀ b, PL b → b < w.heap.size) (hN : n ≤ 1073741824) :
    Calls Tryz.prog 120 #[.slice A n c, low.v] w (PiecePost w P (ps.map edsR) low.ed) := by
  have HS := Lib.hid h
  have HP := Lib.hid hP
  have HPL := Lib.hid hPL
  have HGd := Lib.hid hg
  have HLo := Lib.hid (And.intro hl hn)
  have HLn := Lib.hid h.row.len
  have hcap := h.row.cap
  have hmax := h.row.max
  unfold maxLen at hmax
  obtain ⟨B, hB⟩ : ∃ B, w.heap.size = B := ⟨_, rfl⟩
  have HB := Lib.hid hB
  have HBo := Lib.hid (show EBox ((w.alloc (.cells low.vals.toArray 67)).alloc (.cells (ib 0).vals.toArray 67)) B low ∧ EBox ((w.alloc (.cells low.vals.toArray 67)).alloc (.cells (ib 0).vals.toArray 67)) (B + 1) (ib 0) ∧ Below B w ((w.alloc (.cells low.vals.toArray 67)).alloc (.cells (ib 0).vals.toArray 67)) ∧ B + 1 + 1 ≤ ((w.alloc (.cells low.vals.toArray 67)).alloc (.cells (ib 0).vals.toArray 67)).heap.size by
    rw [← hB]
    have e2 := EBox.new (w.alloc (.cells low.vals.toArray 67)) (ib 0)
    rw [World.size_alloc] at e2
    exact ⟨(EBox.new w low).below ((Below.refl _ _).alloc (Nat.le_refl _) _), e2, ((Below.refl _ _).alloc (Nat.le_refl _) _).alloc (by simp) _, by simp⟩)
  obtain ⟨E, hE⟩ : ∃ E, pieceP (ps.map edsR) low.ed = E := ⟨_, rfl⟩
  have HE := Lib.hid hE
  obtain ⟨li, lg, lA, ln, lc, ll⟩ := low
  simp only [Bd.v, Bd.vals] at *
  have HE0 := Lib.hid (show pieceP ((ps.map edsR).drop 0) (Bd.ed ⟨li, lg, lA, ln, lc, ll⟩) = pieceP (ps.map edsR) (Bd.ed ⟨li, lg, lA, ln, lc, ll⟩) from rfl)
  unfold PiecePost
  rw [hE, hB]
  clear h hg hl hn hP hPL hB hE
  obtain ⟨x0, x1, x2⟩ := HBo.out.1.cells
  go_enter Tryz.func120, Tryz.ntmps120
  go_wp2_with fail
  rw [HB.out]
  go_loopw [10] (fun vi wr => ∃ k, k ≤ n ∧ vi = .int .i64 (k : Nat) ∧ Hid (EBox wr B ⟨li, lg, lA, ln, lc, ll⟩ ∧ EBox wr (B + 1) (ib 0) ∧ Below B w wr ∧ B + 1 + 1 ≤ wr.heap.size ∧ pieceP ((ps.map edsR).drop k) (Bd.ed ⟨li, lg, lA, ln, lc, ll⟩) = pieceP (ps.map edsR) (Bd.ed ⟨li, lg, lA, ln, lc, ll⟩))) (fun vi _ => n - (intOf vi).toNat)
  case atStart => exact ⟨0, Nat.zero_le _, rfl, Lib.hid ⟨HBo.out.1, HBo.out.2.1, HBo.out.2.2.1, HBo.out.2.2.2, HE0.out⟩⟩
  case round =>
    obtain ⟨k, hk, rfl, HI⟩ := hrel
    clear HBo x0 x1 x2
    obtain ⟨x0, x1, x2⟩ := HI.out.1.cells
    obtain ⟨y0, y1, y2⟩ := HI.out.2.1.cells
    obtain ⟨f0, f1, f2⟩ := HI.out.2.1.frozens
    simp only at x0 x1 x2 y0 y1 y2
    by_cases hkn : k < n
    · obtain ⟨p, hp⟩ : ∃ p, ps[k]? = some p := ⟨ps[k]'(by have := HLn.out; omega), by simp⟩
      obtain ⟨b, o, rfl, hPb, q0, q1, q2, q3, q4, q5⟩ := HS.out.row.at_ hp
      have hbB : b < B := by have := HP.out b hPb; have := HB.out; omega
      have HKid := Lib.hid (HS.out.kid p (List.mem_of_getElem? hp))
      have HGp := Lib.hid (HGd.out p (List.mem_of_getElem? hp))
      have HEq := Lib.hid (piece_drop (by rw [List.getElem?_map, hp]; rfl) HI.out.2.2.2.2)
      have hblk := HI.out.2.2.1.block b hbB
      have i0 := (World.cell?_of_block (a := ⟨b, o + k * 6, none⟩) hblk).trans q0
      have i1 := (World.cell?_of_block (a := ⟨b, o + k * 6 + 1, none⟩) hblk).trans q1
      have i2 := (World.cell?_of_block (a := ⟨b, o + k * 6 + 2, none⟩) hblk).trans q2
      have i3 := (World.cell?_of_block (a := ⟨b, o + k * 6 + 3, none⟩) hblk).trans q3
      have i4 := (World.cell?_of_block (a := ⟨b, o + k * 6 + 4, none⟩) hblk).trans q4
      have i5 := (World.cell?_of_block (a := ⟨b, o + k * 6 + 5, none⟩) hblk).trans q5
      have keepP : ∀ (z : World), Below B w z → ∀ x, P x → P x ∧ z.heap[x]? = w.heap[x]? := fun z hz x hx => ⟨hx, hz.block x (by have := HP.out x hx; have := HB.out; omega)⟩
      have ltP : ∀ (z : World), Below B w z → ∀ x, P x → x < z.heap.size := fun z hz x hx => Nat.lt_of_lt_of_le (HP.out x hx) hz.size
      have keepL : ∀ (z : World), Below B w z → ∀ x, PL x → (fun x => x < z.heap.size) x ∧ z.heap[x]? = w.heap[x]? := fun z hz x hx => ⟨Nat.lt_of_lt_of_le (HPL.out x hx) hz.size, hz.block x (by have := HPL.out x hx; have := HB.out; omega)⟩
      have keepQ : ∀ (z : World), Below B w z → ∀ x, P x → (fun x => x < z.heap.size) x ∧ z.heap[x]? = w.heap[x]? := fun z hz x hx => ⟨ltP z hz x hx, (keepP z hz x hx).2⟩
      have HC1 := Lib.hid (fun z (hz : Below B w z) => fcmp_any (w := z) (HLo.out.1.keep (keepL z hz)) (HKid.out.a.keep (keepQ z hz)) (fun x hx => hx) HLo.out.2.tri HGp.out.1.1.tri)
      have HC2 := Lib.hid (fun z (hz : Below B w z) => fcmp_any (w := z) (HLo.out.1.keep (keepL z hz)) (HKid.out.b.keep (keepQ z hz)) (fun x hx => hx) HLo.out.2.tri HGp.out.1.2.tri)
      have HSt := Lib.hid (fun z (hz : Below B w z) => step_any (w := z) (-1) (.inr rfl) (HKid.out.a.keep (keepP z hz)) (ltP z hz) HGp.out.1.1.tri (fun _ => HGp.out.1.1) HGp.out.2.1)
      have HJ1 := Lib.hid (cmpB_le HGp.out.1.1.tri HLo.out.2.tri)
      have HJ2 := Lib.hid (cmpB_ge HLo.out.2.tri HGp.out.1.2.tri)
      have HKp := Lib.hid (fun z (hz : Below B w z) => HKid.out.b.keep (keepP z hz))
      obtain ⟨⟨p1i, p1g, p1A, p1n, p1c, p1l⟩, ⟨p2i, p2g, p2A, p2n, p2c, p2l⟩⟩ := p
      have hX := RBox.new wr (⟨p1i, p1g, p1A, p1n, p1c, p1l⟩, ⟨p2i, p2g, p2A, p2n, p2c, p2l⟩)
      have hBx : Below wr.heap.size wr (wr.alloc (.cells (cells6 (⟨p1i, p1g, p1A, p1n, p1c, p1l⟩, ⟨p2i, p2g, p2A, p2n, p2c, p2l⟩)).toArray 69)) := (Below.refl _ _).alloc (Nat.le_refl _) _
      have HX := Lib.hid hX
      have HBx := Lib.hid hBx
      unfold edsR at HEq
      simp only [Bd.v, Bd.vals] at HC1 HC2 HSt HJ1 HJ2 HKp HGp HEq
      simp only [cells6_eq] at HX HBx i0 i1 i2 i3 i4 i5
      obtain ⟨z0, z1, z2, z3, z4, z5⟩ := HX.out.cells
      simp only at z0 z1 z2 z3 z4 z5
      obtain ⟨v1, hv1⟩ : ∃ v, cmpB ⟨li, lg, lA, ln, lc, ll⟩ ⟨p1i, p1g, p1A, p1n, p1c, p1l⟩ = v := ⟨_, rfl⟩
      obtain ⟨v2, hv2⟩ : ∃ v, cmpB ⟨li, lg, lA, ln, lc, ll⟩ ⟨p2i, p2g, p2A, p2n, p2c, p2l⟩ = v := ⟨_, rfl⟩
      rw [hv1] at HC1 HJ1
      rw [hv2] at HC2 HJ2
      have hki : (k : Int) < (n : Int) := by omega
      have hk0 : (0 : Int) ≤ (k : Int) := by omega
      have HSz := Lib.hid (show B ≤ wr.heap.size by have := HI.out.2.2.2.1; omega)
      have HIB := Lib.hid (And.intro (HI.out.1.below hBx) (HI.out.2.1.below hBx))
      simp only [cells6_eq] at HIB
      clear hp q0 q1 q2 q3 q4 q5 hblk hX hBx HKid keepP keepL keepQ ltP hv1 hv2 x0 x1 x2 y0 y1 y2 f0 f1 f2
      obtain ⟨x0, x1, x2⟩ := HIB.out.1.cells
      obtain ⟨y0, y1, y2⟩ := HIB.out.2.cells
      obtain ⟨f0, f1, f2⟩ := HIB.out.2.frozens
      simp only at x0 x1 x2 y0 y1 y2
      by_cases c1 : v1 < 0
      · have HEe := Lib.hid (show pieceP (ps.map edsR) (Bd.ed ⟨li, lg, lA, ln, lc, ll⟩) = (false, shE (-1) (Bd.ed ⟨p1i, p1g, p1A, p1n, p1c, p1l⟩)) from HEq.out.trans (if_neg (fun h => HJ1.out.2 h c1)))
        have d1 : decide (v1 < 0) = true := decide_eq_true c1
        go_wp2_with (first
          | (go_at_call 38; (with_reducible refine (HC1.out _ (HI.out.2.2.1.trans (HBx.out.mono HSz.out))).mono ?_); rintro e w4 ⟨rfl, hg4⟩; have HB4 := Lib.hid (HBx.out.trans (hg4.bel.mono HBx.out.size)); have HX4 := Lib.hid (HX.out.below hg4.bel); have HY4 := Lib.hid (HIB.out.2.below hg4.bel); clear hg4 z0 z1 z2 z3 z4 z5 x0 x1 x2 y0 y1 y2 f0 f1 f2; obtain ⟨z0, z1, z2, z3, z4, z5⟩ := HX4.out.cells; obtain ⟨y0, y1, y2⟩ := HY4.out.cells; obtain ⟨f0, f1, f2⟩ := HY4.out.frozens)
          | (go_at_call 64; (with_reducible refine (HSt.out _ (HI.out.2.2.1.trans (HB4.out.mono HSz.out))).mono ?_); rintro e w5 ⟨⟨di, dg, dA, dn, dc, dl⟩, rfl, hdt, hdn, hde, hb5⟩; have HD := Lib.hid (And.intro hdt (And.intro hdn hde)); have HB5 := Lib.hid (HB4.out.trans (hb5.mono HB4.out.size)); have HZ5 := Lib.hid (Nat.le_trans HB4.out.size (Nat.le_refl _)); have HY5 := Lib.hid (HY4.out.below hb5); clear hdt hdn hde hb5 z0 z1 z2 z3 z4 z5 y0 y1 y2 f0 f1 f2; simp only [Bd.v, Bd.vals]; obtain ⟨y0, y1, y2⟩ := HY5.out.cells; obtain ⟨f0, f1, f2⟩ := HY5.out.frozens))
        have HS := Lib.hid (HY5.out.set3 (⟨di, dg, dA, dn, dc, dl⟩ : Bd))
        have HBz := Lib.hid (HI.out.2.2.1.trans (HB5.out.mono HSz.out))
        simp only at HS
        generalize ((w5.setCell ⟨B + 1, 0, none⟩ (.int .i64 di)).setCell ⟨B + 1, 1, none⟩ (.bool dg)).setCell ⟨B + 1, 2, none⟩ (.slice dA dn dc) = w6 at *
        obtain ⟨r0, r1, r2⟩ := HS.out.1.cells
        simp only at r0 r1 r2
        have hz6 := HS.out.2.size
        refine bodyPost_ret (v := .tuple #[.bool false, .agg #[.int .i64 di, .bool dg, .slice dA dn dc]]) (by simp [results, Tryz.results120, go_sem, r0, r1, r2]) rfl ⟨⟨di, dg, dA, dn, dc, dl⟩, by first | (rw [← HE.out, HEe.out] <;> rfl) | (rw [HEe.out]; rfl), ?_, HD.out.2.1, by first | (rw [← HE.out, HEe.out] <;> exact HD.out.2.2) | (rw [HEe.out]; exact HD.out.2.2), HBz.out.grown HS.out.2 (by have := HBz.out.size; have := HB.out; omega) (fun j e => by injection e with e; omega)⟩
        exact HD.out.1.keep fun x hx => ⟨hx.imp id (fun h => ⟨by have := HB4.out.size; have := HSz.out; omega, Nat.lt_of_lt_of_le h.2 hz6⟩), HS.out.2.block x (by rcases hx with h | h; exact Nat.lt_of_lt_of_le (HP.out x h) HBz.out.size; exact h.2) (fun e => by injection e with e; rcases hx with h | h; have := HP.out x h; have := HB.out; omega; have := HB4.out.size; have := HI.out.2.2.2.1; omega)⟩
      · have d1 : decide (v1 < 0) = false := decide_eq_false c1
        have HE1 := Lib.hid (HEq.out.trans (if_pos (HJ1.out.1 c1)))
        by_cases c2 : v2 ≤ 0
        · have d2 : decide (v2 ≤ 0) = true := decide_eq_true c2
          have HEe := Lib.hid (show pieceP (ps.map edsR) (Bd.ed ⟨li, lg, lA, ln, lc, ll⟩) = (true, Bd.ed ⟨p2i, p2g, p2A, p2n, p2c, p2l⟩) from HE1.out.trans (if_pos (HJ2.out.1 c2)))
          go_upto_region 7 with (first
            | (go_at_call 38; (with_reducible refine (HC1.out _ (HI.out.2.2.1.trans (HBx.out.mono HSz.out))).mono ?_); rintro e w4 ⟨rfl, hg4⟩; have HB4 := Lib.hid (HBx.out.trans (hg4.bel.mono HBx.out.size)); have HX4 := Lib.hid (HX.out.below hg4.bel); have HY4 := Lib.hid (HIB.out.2.below hg4.bel); have HW4 := Lib.hid (HIB.out.1.below hg4.bel); clear hg4 z0 z1 z2 z3 z4 z5 x0 x1 x2 y0 y1 y2 f0 f1 f2; obtain ⟨z0, z1, z2, z3, z4, z5⟩ := HX4.out.cells; obtain ⟨x0, x1, x2⟩ := HW4.out.cells)
            | (go_at_call 38; (with_reducible refine (HC2.out _ (HI.out.2.2.1.trans (HB4.out.mono HSz.out))).mono ?_); rintro e w5 ⟨rfl, hg5⟩; have HB5 := Lib.hid (HB4.out.trans (hg5.bel.mono HB4.out.size)); have HX5 := Lib.hid (HX4.out.below hg5.bel); have HY5 := Lib.hid (HY4.out.below hg5.bel); clear hg5 z0 z1 z2 z3 z4 z5 x0 x1 x2; obtain ⟨z0, z1, z2, z3, z4, z5⟩ := HX5.out.cells))
          refine wp_region_U 3 (by kernel_rfl) (fun z9 K0 hs0 => ?_)
          refine tkW 0 (v := ?tv0_1) K0 rfl (by kernel_rfl) ?tq0_1 (by kernel_rfl) (fun z5 hS => ?ty0_1) ?_
          case ty0_1 => go_simp; rfl
          case tq0_1 => exact fun _ _ _ h => h
          refine tkW 1 (v := ?tv1_2) K0 rfl (by kernel_rfl) ?tq1_2 (by kernel_rfl) (fun z5 hS => ?ty1_2) ?_
          case ty1_2 => obtain ⟨q0, q1, q2, q3, q4, q5⟩ := (HX5.out.below hS).cells; go_simp; rfl
          case tq1_2 => exact fun _ _ _ h => h
          refine wpAnyW_one (i := 2) (by kernel_rfl) rfl (fun K hK => ?_)
          go_simp
          refine hK.out _ _ (fun _ => K0) ?_
          have HY9 := Lib.hid (HY5.out.below K0)
          obtain ⟨y0, y1, y2⟩ := HY9.out.cells
          obtain ⟨f0, f1, f2⟩ := HY9.out.frozens
          refine wpAnyW_one (i := 3) (by kernel_rfl) rfl (fun K hK => ?_)
          go_simp
          refine hK.out _ _ (fun h => absurd h (by simp)) ?_
          refine wpAnyW_done (by kernel_rfl) ?_ _
          have HB9 := Lib.hid (HI.out.2.2.1.trans ((HB5.out.trans (K0.mono HB5.out.size)).mono HSz.out))
          clear K0 hs0 y0 y1 y2 f0 f1 f2 z0 z1 z2 z3 z4 z5
          go_wp2_with fail
          have HS := Lib.hid (HY9.out.set3 (⟨p2i, p2g, p2A, p2n, p2c, p2l⟩ : Bd))
          have HBz := Lib.hid (HB9.out)
          simp only at HS
          generalize ((z9.setCell ⟨B + 1, 0, none⟩ (.int .i64 p2i)).setCell ⟨B + 1, 1, none⟩ (.bool p2g)).setCell ⟨B + 1, 2, none⟩ (.slice p2A p2n p2c) = w6 at *
          obtain ⟨r0, r1, r2⟩ := HS.out.1.cells
          simp only at r0 r1 r2
          have hz6 := HS.out.2.size
          refine bodyPost_ret (v := .tuple #[.bool true, .agg #[.int .i64 p2i, .bool p2g, .slice p2A p2n p2c]]) (by simp [results, Tryz.results120, go_sem, r0, r1, r2]) rfl ⟨⟨p2i, p2g, p2A, p2n, p2c, p2l⟩, by first | (rw [← HE.out, HEe.out] <;> rfl) | (rw [HEe.out]; rfl), ?_, HGp.out.1.2, by first | (rw [← HE.out, HEe.out] <;> exact rfl) | (rw [HEe.out]; exact rfl), HBz.out.grown HS.out.2 (by have := HBz.out.size; have := HB.out; omega) (fun j e => by injection e with e; omega)⟩
          exact (HKp.out _ HB9.out).keep fun x hx => ⟨.inl hx, HS.out.2.block x (Nat.lt_of_lt_of_le (HP.out x hx) HBz.out.size) (fun e => by injection e with e; have := HP.out x hx; have := HB.out; omega)⟩
        · have d2 : decide (v2 ≤ 0) = false := decide_eq_false c2
          have HEe := Lib.hid ((HE1.out.trans (if_neg (fun h => c2 (HJ2.out.2 h)))).symm)
          go_wp2_with (first
            | (go_at_call 38; (with_reducible refine (HC1.out _ (HI.out.2.2.1.trans (HBx.out.mono HSz.out))).mono ?_); rintro e w4 ⟨rfl, hg4⟩; have HB4 := Lib.hid (HBx.out.trans (hg4.bel.mono HBx.out.size)); have HX4 := Lib.hid (HX.out.below hg4.bel); have HY4 := Lib.hid (HIB.out.2.below hg4.bel); have HW4 := Lib.hid (HIB.out.1.below hg4.bel); clear hg4 z0 z1 z2 z3 z4 z5 x0 x1 x2 y0 y1 y2 f0 f1 f2; obtain ⟨z0, z1, z2, z3, z4, z5⟩ := HX4.out.cells; obtain ⟨x0, x1, x2⟩ := HW4.out.cells)
            | (go_at_call 38; (with_reducible refine (HC2.out _ (HI.out.2.2.1.trans (HB4.out.mono HSz.out))).mono ?_); rintro e w5 ⟨rfl, hg5⟩; have HB5 := Lib.hid (HB4.out.trans (hg5.bel.mono HB4.out.size)); have HY5 := Lib.hid (HY4.out.below hg5.bel); have HW5 := Lib.hid (HW4.out.below hg5.bel); clear hg5))
          go_roundw
          case rel => exact ⟨k + 1, by omega, by go_num, Lib.hid ⟨HW5.out, HY5.out, HI.out.2.2.1.trans (HB5.out.mono HSz.out), Nat.le_trans HI.out.2.2.2.1 HB5.out.size, HEe.out⟩⟩
          case measure => simp [intOf]; omega
    · have hkn2 : k = n := by omega
      have hki : ¬ (k : Int) < (n : Int) := by omega
      have HEe := Lib.hid (show pieceP (ps.map edsR) (Bd.ed ⟨li, lg, lA, ln, lc, ll⟩) = (false, .hi) by
        rw [← HI.out.2.2.2.2, List.drop_eq_nil_of_le (by rw [List.length_map]; have := HLn.out; omega)]
        rfl)
      clear hkn2
      go_wp2_with fail
      have HS := Lib.hid (HI.out.2.1.set3 (⟨1, false, none, 0, 0, []⟩ : Bd))
      have HBz := Lib.hid (HI.out.2.2.1)
      simp only at HS
      generalize ((wr.setCell ⟨B + 1, 0, none⟩ (.int .i64 1)).setCell ⟨B + 1, 1, none⟩ (.bool false)).setCell ⟨B + 1, 2, none⟩ (.slice none 0 0) = w6 at *
      obtain ⟨r0, r1, r2⟩ := HS.out.1.cells
      simp only at r0 r1 r2
      have hz6 := HS.out.2.size
      refine bodyPost_ret (v := .tuple #[.bool false, .agg #[.int .i64 1, .bool false, .slice none 0 0]]) (by simp [results, Tryz.results120, go_sem, r0, r1, r2]) rfl ⟨⟨1, false, none, 0, 0, []⟩, by first | (rw [← HE.out, HEe.out] <;> rfl) | (rw [HEe.out]; rfl), ?_, ib_nrm (.inr rfl), by first | (rw [← HE.out, HEe.out] <;> exact rfl) | (rw [HEe.out]; exact rfl), HBz.out.grown HS.out.2 (by have := HBz.out.size; have := HB.out; omega) (fun j e => by injection e with e; omega)⟩
      exact ib_at _ _ (.inr (.inr rfl))
end Go.Proofs.YtpikjceodmepiaaGreatDoor


import Derived.Test.YtpikjceodmepiaaGreatDoorYib
import Derived.Deep.DeepCutAuto
import Derived.Deep.CutBlock
import Derived.StillTailTactics
import Derived.WalkMore
set_option linter.unusedVariables false
set_option linter.unusedSimpArgs false
namespace Go.Proofs.YtpikjceodmepiaaGreatDoor
open Go.RowKit Hb Hf
set_option linter.unusedVariables false
set_option linter.unusedSimpArgs false
attribute [local go_sem ↓] Go.wp_at_zero Go.wp_at_succ
/-! ### normal -/
/-- behind k ranges of the list L that came in -/
structure N1 (w : World) (B : Nat) (L : List R) (k : Nat) (A : Option Addr) (m c : Nat) (qs : List Rg) (wr : World) : Prop where
  bel : Below B w wr
  le : B ≤ wr.heap.size
  row : RRow wr B (Fr B wr) A m c qs
  nrm : ∀ q ∈ qs, Gd q
  oks : ∀ r, r ∈ qs.map edsR ↔ r ∈ L.take k ∧ ok r
  len : m ≤ k
theorem N1.skip {w wr w' : World} {B k m c : Nat} {L : List R} {A : Option Addr} {qs : List Rg} {r : R} (h : N1 w B L k A m c qs wr) (hr : L[k]? = some r) (hn : ¬ ok r) (hb : Below wr.heap.size wr w') : N1 w B L (k + 1) A m c qs w' :=
  ⟨h.bel.trans (hb.mono h.le), Nat.le_trans h.le hb.size, h.row.fr hb, h.nrm, fun s => by
    rw [h.oks s, List.take_add_one, hr]
    simp only [Option.toList_some, List.mem_append, List.mem_singleton]
    constructor
    · rintro ⟨h1, h2⟩; exact ⟨.inl h1, h2⟩
    · rintro ⟨h1 | h1, h2⟩
      · exact ⟨h1, h2⟩
      · subst h1; exact absurd h2 hn, Nat.le_succ_of_le h.len⟩
theorem N1.add {w wr w' : World} {B k m c c' : Nat} {L : List R} {A A' : Option Addr} {qs : List Rg} {q : Rg} (h : N1 w B L k A m c qs wr) (hr : L[k]? = some (edsR q)) (hn : ok (edsR q)) (hq : Gd q) (hb : Below B wr w') (hrow : RRow w' B (Fr B w') A' (m + 1) c' (qs ++ [q])) : N1 w B L (k + 1) A' (m + 1) c' (qs ++ [q]) w' :=
  ⟨h.bel.trans hb, Nat.le_trans h.le hb.size, hrow, fun s hs => by
    rcases List.mem_append.1 hs with h1 | h1
    · exact h.nrm s h1
    · rw [List.mem_singleton.1 h1]; exact hq, fun s => by
    rw [List.map_append, List.mem_append, h.oks s, List.take_add_one, hr]
    simp only [Option.toList_some, List.mem_append, List.mem_singleton, List.map_cons, List.map_nil]
    constructor
    · rintro (⟨h1, h2⟩ | h1)
      · exact ⟨.inl h1, h2⟩
      · subst h1; exact ⟨.inr rfl, hn⟩
    · rintro ⟨h1 | h1, h2⟩
      · exact .inl ⟨h1, h2⟩
      · exact .inr h1, Nat.succ_le_succ h.len⟩
/-- the sizes of a set that came in: what can be reckoned with -/
def Szs (ps : List Rg) : Prop := ∀ p ∈ ps, (p.1.i = 0 → p.1.n ≤ 33554432) ∧ (p.2.i = 0 → p.2.n ≤ 33554432)
/-- a set of the call's own, normal, of the same numbers -/
def NormRes (w : World) (L : List R) (n : Nat) (A' : Option Addr) (n' c' : Nat) (qs : List Rg) (w' : World) : Prop :=
  RRow w' w.heap.size (Fr w.heap.size w') A' n' c' qs ∧ (∀ q ∈ qs, Gd q) ∧ NF (qs.map edsR) ∧ (∀ z, Hf.mem z (qs.map edsR) ↔ Hf.mem z L) ∧ (∀ r ∈ qs.map edsR, (∃ s ∈ L, s.1 = r.1) ∧ ∃ s ∈ L, s.2 = r.2) ∧ n' ≤ n ∧ Below w.heap.size w w'
def NormPost (w : World) (L : List R) (n : Nat) (e : Ending) (w' : World) : Prop := ∃ A' n' c' qs, e = .returned (.slice A' n' c') ∧ NormRes w L n A' n' c' qs w'
set_option maxRecDepth 100000 in
set_option maxHeartbeats 8000000 in
theorem normal_any {w : World} {P : Nat → Prop} {A : Option Addr} {n c : Nat} {ps : List Rg} (h : SetP w P A n c ps) (hP : ∀ b, P b → b < w.heap.size) (hs : Szs ps) (hn : n ≤ 1073741824) :
    Calls Tryz.prog 73 #[.slice A n c] w (NormPost w (ps.map edsR) n) := by
  have HS := Lib.hid h
  have HP := Lib.hid hP
  have HSz := Lib.hid hs
  have HLn := Lib.hid h.row.len
  have hcap := h.row.cap
  have hmax := h.row.max
  unfold maxLen at hmax
  have HN0 := Lib.hid (show N1 w w.heap.size (ps.map edsR) 0 none 0 0 [] w from ⟨Below.refl _ _, Nat.le_refl _, RRow.nil _ _ _, by simp, fun r => by simp, Nat.le_refl _⟩)
  obtain ⟨B, hB⟩ : ∃ B, w.heap.size = B := ⟨_, rfl⟩
  have HB := Lib.hid hB
  rw [hB] at HN0
  clear h hP hs hB
  go_enter Tryz.func73, Tryz.ntmps73
  go_wp2_with fail
  go_step3
  go_wp2_with fail
  go_loopw [3, 11] (fun vo vi wr => ∃ k A' m c' qs, k ≤ n ∧ vi = .int .i64 (k : Nat) ∧ vo = .slice A' m c' ∧ Hid (N1 w B (ps.map edsR) k A' m c' qs wr)) (fun _ vi _ => n - (intOf vi).toNat)
  case atStart => exact ⟨0, none, 0, 0, [], Nat.zero_le _, rfl, rfl, HN0⟩
  case round =>
    obtain ⟨k, A2, m, c2, qs, hk, rfl, rfl, HI⟩ := hrel
    clear HN0
    by_cases hkn : k < n
    · obtain ⟨p, hp⟩ : ∃ p, ps[k]? = some p := ⟨ps[k]'(by have := HLn.out; omega), by simp⟩
      obtain ⟨b, o, rfl, hPb, q0, q1, q2, q3, q4, q5⟩ := HS.out.row.at_ hp
      have hbB : b < B := by have := HP.out b hPb; have := HB.out; omega
      have HKid := Lib.hid (HS.out.kid p (List.mem_of_getElem? hp))
      have HSp := Lib.hid (HSz.out p (List.mem_of_getElem? hp))
      have HSk := Lib.hid (show szE p.1.ed ≤ 33554432 ∧ szE p.2.ed ≤ 33554432 from ⟨szE_raw HKid.out.a HSp.out.1, szE_raw HKid.out.b HSp.out.2⟩)
      have HLk := Lib.hid (show (ps.map edsR)[k]? = some (edsR p) by simp [hp])
      have hblk := HI.out.bel.block b hbB
      have i0 := (World.cell?_of_block (a := ⟨b, o + k * 6, none⟩) hblk).trans q0
      have i1 := (World.cell?_of_block (a := ⟨b, o + k * 6 + 1, none⟩) hblk).trans q1
      have i2 := (World.cell?_of_block (a := ⟨b, o + k * 6 + 2, none⟩) hblk).trans q2
      have i3 := (World.cell?_of_block (a := ⟨b, o + k * 6 + 3, none⟩) hblk).trans q3
      have i4 := (World.cell?_of_block (a := ⟨b, o + k * 6 + 4, none⟩) hblk).trans q4
      have i5 := (World.cell?_of_block (a := ⟨b, o + k * 6 + 5, none⟩) hblk).trans q5
      have HCl := Lib.hid (fun (z : World) (hz : Below B w z) => And.intro
        (clean_any (w := z) (HKid.out.a.keep (Q := P) (fun x hx => ⟨hx, hz.block x (by have := HP.out x hx; have := HB.out; omega)⟩)) (fun x hx => Nat.lt_of_lt_of_le (HP.out x hx) hz.size) (fun e => Nat.le_trans (HSp.out.1 e) (by omega)))
        (clean_any (w := z) (HKid.out.b.keep (Q := P) (fun x hx => ⟨hx, hz.block x (by have := HP.out x hx; have := HB.out; omega)⟩)) (fun x hx => Nat.lt_of_lt_of_le (HP.out x hx) hz.size) (fun e => Nat.le_trans (HSp.out.2 e) (by omega))))
      obtain ⟨⟨p1i, p1g, p1A, p1n, p1c, p1l⟩, ⟨p2i, p2g, p2A, p2n, p2c, p2l⟩⟩ := p
      have HX := Lib.hid (RBox.new wr (⟨p1i, p1g, p1A, p1n, p1c, p1l⟩, ⟨p2i, p2g, p2A, p2n, p2c, p2l⟩))
      have HBx := Lib.hid (show Below wr.heap.size wr (wr.alloc (.cells (cells6 (⟨p1i, p1g, p1A, p1n, p1c, p1l⟩, ⟨p2i, p2g, p2A, p2n, p2c, p2l⟩)).toArray 69)) from (Below.refl _ _).alloc (Nat.le_refl _) _)
      simp only [cells6_eq, Bd.v, Bd.vals] at HX HBx HCl i0 i1 i2 i3 i4 i5
      obtain ⟨eA, heA⟩ : ∃ e, Bd.ed ⟨p1i, p1g, p1A, p1n, p1c, p1l⟩ = e := ⟨_, rfl⟩
      obtain ⟨eB, heB⟩ : ∃ e, Bd.ed ⟨p2i, p2g, p2A, p2n, p2c, p2l⟩ = e := ⟨_, rfl⟩
      have hLk := HLk.out
      unfold edsR at hLk
      dsimp only at hLk
      rw [heA, heB] at hLk
      rw [heA, heB] at HCl
      dsimp only at HSk
      rw [heA, heB] at HSk
      have HL2 := Lib.hid hLk
      have hki : (k : Int) < (n : Int) := by omega
      have hk0 : (0 : Int) ≤ (k : Int) := by omega
      clear hp q0 q1 q2 q3 q4 q5 hblk hLk heA heB HLk HKid HSp
      go_upto_region 5 with fail
      refine wp_region_U 7 (by kernel_rfl) (fun z0 K0 hs0 => ?_)
      refine tkW 0 (v := ?tv0_1) K0 rfl (by kernel_rfl) ?tq0_1 (by kernel_rfl) (fun z5 hS => ?ty0_1) ?_
      case ty0_1 => go_simp; rfl
      case tq0_1 => exact fun _ _ _ h => h
      refine tkW 1 (v := ?tv1_2) K0 rfl (by kernel_rfl) ?tq1_2 (by kernel_rfl) (fun z5 hS => ?ty1_2) ?_
      case ty1_2 => obtain ⟨q0, q1, q2, q3, q4, q5⟩ := (HX.out.below hS).cells; go_simp; rfl
      case tq1_2 => exact fun _ _ _ h => h
      refine tkW 3 (v := ?tv3_3) K0 rfl (by kernel_rfl) ?tq3_3 (by kernel_rfl) (fun z5 hS => ?ty3_3) ?_
      case ty3_3 => go_simp; rfl
      case tq3_3 => exact fun _ _ _ h => h
      refine tkW 4 (v := ?tv4_4) K0 rfl (by kernel_rfl) ?tq4_4 (by kernel_rfl) (fun z5 hS => ?ty4_4) ?_
      case ty4_4 => obtain ⟨q0, q1, q2, q3, q4, q5⟩ := (HX.out.below hS).cells; go_simp; rfl
      case tq4_4 => exact fun _ _ _ h => h
      refine wpAnyW_one (i := 2) (by kernel_rfl) rfl (fun K hK => ?_)
      go_simp
      (with_reducible refine (HCl.out _ (HI.out.bel.trans ((HBx.out.trans (K0.mono HBx.out.size)).mono HI.out.le))).1.mono ?_)
      rintro e z1 ⟨⟨ai, ag, aA, an, ac, al⟩, rfl, hat, hNa, hea, hb1⟩
      have K1 := K0.trans (hb1.mono K0.size)
      refine hK.out _ _ (fun _ => K1) ?_
      refine wpAnyW_one (i := 5) (by kernel_rfl) rfl (fun K hK => ?_)
      go_simp
      (with_reducible refine (HCl.out _ (HI.out.bel.trans ((HBx.out.trans (K1.mono HBx.out.size)).mono HI.out.le))).2.mono ?_)
      rintro e z2 ⟨⟨bi, bg, bA, bn, bc, bl⟩, rfl, hbt, hNb, heb, hb2⟩
      have K2 := K1.trans (hb2.mono K1.size)
      refine hK.out _ _ (fun _ => K2) ?_
      simp only [Bd.v, Bd.vals]
      refine tkW 6 (v := ?tv6_5) K2 rfl (by kernel_rfl) ?tq6_5 (by kernel_rfl) (fun z5 hS => ?ty6_5) ?_
      case ty6_5 => go_simp; rfl
      case tq6_5 => exact fun _ _ _ h => h
      have HX2 := Lib.hid (HX.out.below K2)
      obtain ⟨y0, y1, y2, y3, y4, y5⟩ := HX2.out.cells
      obtain ⟨f0, f1, f2, f3, f4, f5⟩ := HX2.out.frozens
      refine wpAnyW_one (i := 7) (by kernel_rfl) rfl (fun K hK => ?_)
      go_simp
      refine hK.out _ _ (fun h => absurd h (by simp)) ?_
      refine wpAnyW_done (by kernel_rfl) ?_ _
      have HT := Lib.hid (HX2.out.set6 (⟨ai, ag, aA, an, ac, al⟩, ⟨bi, bg, bA, bn, bc, bl⟩))
      have hsz0 := K0.size
      have hsz1 := hb1.size
      have hsz2 := hb2.size
      simp only [World.size_alloc] at hsz0
      have HBz := Lib.hid (show Below wr.heap.size wr z2 from HBx.out.trans (K2.mono HBx.out.size))
      have HAt := Lib.hid (show Rg.At z2 (fun x => wr.heap.size < x ∧ x < z2.heap.size) (⟨ai, ag, aA, an, ac, al⟩, ⟨bi, bg, bA, bn, bc, bl⟩) from ⟨hat.keep (fun x hx => ⟨⟨by have := hx.1; omega, by have := hx.2; omega⟩, hb2.block x hx.2⟩), hbt.wide (fun x hx => ⟨by have := hx.1; omega, hx.2⟩)⟩)
      have HNm := Lib.hid (And.intro hNa hNb)
      have HGd := Lib.hid (Gd.mk' HAt.out hNa hNb (by rw [hea]; exact HSk.out.1) (by rw [heb]; exact HSk.out.2))
      have HEd := Lib.hid (show edsR (⟨ai, ag, aA, an, ac, al⟩, ⟨bi, bg, bA, bn, bc, bl⟩) = (eA, eB) by unfold edsR; rw [hea, heb])
      clear K0 K1 K2 hb1 hb2 hat hbt hNa hNb hea heb hs0 HX HX2 HBx HCl hsz0 hsz1 hsz2 y0 y1 y2 y3 y4 y5 f0 f1 f2 f3 f4 f5 i0 i1 i2 i3 i4 i5
      generalize (((((z2.setCell ⟨wr.heap.size, 0, none⟩ (.int .i64 ai)).setCell ⟨wr.heap.size, 1, none⟩ (.bool ag)).setCell ⟨wr.heap.size, 2, none⟩ (.slice aA an ac)).setCell ⟨wr.heap.size, 3, none⟩ (.int .i64 bi)).setCell ⟨wr.heap.size, 4, none⟩ (.bool bg)).setCell ⟨wr.heap.size, 5, none⟩ (.slice bA bn bc) = w6 at *
      have HB6 := Lib.hid (HBz.out.grown HT.out.2 HBz.out.size (fun j e => by injection e with e; omega))
      have HX6 := Lib.hid HT.out.1
      have HA6 := Lib.hid (HAt.out.keep (Q := fun x => wr.heap.size < x ∧ x < w6.heap.size) (fun x hx => ⟨⟨hx.1, Nat.lt_of_lt_of_le hx.2 HT.out.2.size⟩, HT.out.2.block x hx.2 (fun e => by injection e with e; have := hx.1; omega)⟩))
      have HCm := Lib.hid (fcmp_any HA6.out.a HA6.out.b (fun x hx => hx.2) HNm.out.1.tri HNm.out.2.tri)
      have HOk := Lib.hid (ok_iff HNm.out.1.tri HNm.out.2.tri)
      have hta : -1 ≤ ai ∧ ai ≤ 1 := by have := HNm.out.1.tri; unfold Bd.Tri at this; simp only at this; omega
      have htb : -1 ≤ bi ∧ bi ≤ 1 := by have := HNm.out.2.tri; unfold Bd.Tri at this; simp only at this; omega
      obtain ⟨ta1, ta2⟩ := hta
      obtain ⟨tb1, tb2⟩ := htb
      have hHE := HEd.out
      unfold edsR at hHE
      injection hHE with hHE1 hHE2
      dsimp only at hHE1 hHE2
      rw [hHE1, hHE2] at HOk
      simp only [Bd.v, Bd.vals] at HCm
      dsimp only at HOk
      obtain ⟨d, hd⟩ : ∃ d, cmpB ⟨ai, ag, aA, an, ac, al⟩ ⟨bi, bg, bA, bn, bc, bl⟩ = d := ⟨_, rfl⟩
      rw [hd] at HCm HOk
      obtain ⟨y0, y1, y2, y3, y4, y5⟩ := HX6.out.cells
      clear HT HBz HAt hHE1 hHE2 hd
      have h4 : 0 < ai ∨ (¬ 0 < ai ∧ bi < 0) ∨ (¬ 0 < ai ∧ ¬ bi < 0 ∧ 0 < d) ∨ (¬ 0 < ai ∧ ¬ bi < 0 ∧ ¬ 0 < d) := by omega
      rcases h4 with c1 | ⟨c1, c2⟩ | ⟨c1, c2, c3⟩ | ⟨c1, c2, c3⟩
      · have HNo := Lib.hid (show ¬ ok (eA, eB) from fun h => (HOk.out.1 h).1 c1)
        have d1 : decide (0 < ai) = true := decide_eq_true c1
        clear c1 HCm
        go_wp2_with fail
        go_roundw
        case rel => exact ⟨k + 1, A2, m, c2, qs, by omega, by go_num, rfl, Lib.hid (HI.out.skip HL2.out HNo.out HB6.out)⟩
        case measure => simp [intOf]; omega
      · have HNo := Lib.hid (show ¬ ok (eA, eB) from fun h => (HOk.out.1 h).2.1 c2)
        have d1 : decide (0 < ai) = false := decide_eq_false c1
        have d2 : decide (bi < 0) = true := decide_eq_true c2
        clear c1 c2 HCm
        go_wp2_with fail
        go_roundw
        case rel => exact ⟨k + 1, A2, m, _, qs, by omega, by go_num, rfl, Lib.hid (HI.out.skip HL2.out HNo.out HB6.out)⟩
        case measure => simp [intOf]; omega
      · have HNo := Lib.hid (show ¬ ok (eA, eB) from fun h => (HOk.out.1 h).2.2 c3)
        have d1 : decide (0 < ai) = false := decide_eq_false c1
        have d2 : decide (bi < 0) = false := decide_eq_false c2
        have d3 : decide (0 < d) = true := decide_eq_true c3
        clear c1 c2 c3
        go_wp2_with (go_at_call 38; (with_reducible refine HCm.out.mono ?_); rintro e w7 ⟨rfl, hg7⟩)
        go_roundw
        case rel => exact ⟨k + 1, A2, m, _, qs, by omega, by go_num, rfl, Lib.hid (HI.out.skip HL2.out HNo.out (HB6.out.trans (hg7.bel.mono HB6.out.size)))⟩
        case measure => simp [intOf]; omega
      · have HYe := Lib.hid (HOk.out.2 ⟨c1, c2, c3⟩)
        have d1 : decide (0 < ai) = false := decide_eq_false c1
        have d2 : decide (bi < 0) = false := decide_eq_false c2
        have d3 : decide (0 < d) = false := decide_eq_false c3
        have HMl := Lib.hid (show m + 1 ≤ maxRg by have := HI.out.len; unfold maxRg; omega)
        clear c1 c2 c3
        go_wp2_with (first
          | ((go_at_call 38; (with_reducible refine HCm.out.mono ?_); rintro e w7 ⟨rfl, hg7⟩); have HB7 := Lib.hid (HB6.out.trans (hg7.bel.mono HB6.out.size)); have HX7 := Lib.hid (HX6.out.below hg7.bel); have HA7 := Lib.hid (HA6.out.keep (Q := fun x => wr.heap.size ≤ x ∧ x < w7.heap.size) (fun x hx => ⟨⟨Nat.le_of_lt hx.1, Nat.lt_of_lt_of_le hx.2 hg7.bel.size⟩, hg7.bel.block x hx.2⟩)); clear y0 y1 y2 y3 y4 y5 hg7; obtain ⟨y0, y1, y2, y3, y4, y5⟩ := HX7.out.cells)
          | (at_builtin; refine wpList_app1R rfl _ _ rfl rfl rfl HI.out.row HI.out.le HB7.out (HI.out.row.apart HI.out.le (Nat.le_refl _) HA7.out) HMl.out ?_; intro A6 c6 w8 hr8 hb8 hs8; have HN8 := Lib.hid (HI.out.add (by rw [HEd.out]; exact HL2.out) (by rw [HEd.out]; exact HYe.out) HGd.out hb8 hr8); clear hr8 hb8 hs8))
        go_roundw
        case rel => exact ⟨k + 1, A6, m + 1, c6, _, by omega, by go_num, rfl, HN8⟩
        case measure => simp [intOf]; omega
    · have hkn2 : k = n := by omega
      have hki : ¬ (k : Int) < (n : Int) := by omega
      have HTk := Lib.hid (show (ps.map edsR).take k = ps.map edsR from List.take_of_length_le (by rw [List.length_map]; have := HLn.out; omega))
      have HSo := Lib.hid (sort_any HI.out.row (fun b hb => hb.2) (fun p hp => (HI.out.nrm p hp).1.1.tri) HI.out.le (by have := HI.out.len; omega))
      have HMn := Lib.hid (show m ≤ n by have := HI.out.len; omega)
      clear hkn2
      go_wp2_with (go_at_call 102; (with_reducible refine HSo.out.mono ?_); rintro e w4 ⟨rfl, rs, hpm, hpw, hrow4, hb4⟩; have HRow := Lib.hid (hrow4.wide (Q := Fr B w4) (fun b hb => ⟨hb.1, Nat.lt_of_lt_of_le hb.2 hb4.size⟩)); have HB4 := Lib.hid (HI.out.bel.trans hb4); have HRs := Lib.hid (And.intro hpm hpw); have HZ4 := Lib.hid hb4.size; clear hpm hpw hrow4 hb4)
      have HGs := Lib.hid (show ∀ q ∈ rs, Gd q from fun q hq => HI.out.nrm q (HRs.out.1.mem_iff.1 hq))
      have HOs := Lib.hid (show ∀ r, r ∈ rs.map edsR ↔ r ∈ ps.map edsR ∧ ok r from fun r => by rw [← HTk.out, ← HI.out.oks r]; exact (HRs.out.1.map edsR).mem_iff)
      have HPw := Lib.hid (show (rs.map edsR).Pairwise fun a b => leE a.1 b.1 from List.pairwise_map.2 HRs.out.2)
      have HLe := Lib.hid (show B ≤ w4.heap.size from Nat.le_trans HI.out.le HZ4.out)
      have HLr := Lib.hid HRow.out.len
      have hcm := HRow.out.cap
      have hcx := hcm.2
      unfold maxLen at hcx
      have hmc := hcm.1
      clear HSo HTk HI hki HRs HZ4 hcm
      go_step3
      go_wp2_with fail
      go_loopw [6, 49] (fun vk vj wr => ∃ (j kk : Nat) (cs : List Rg), j ≤ m ∧ vj = .int .i64 (j : Nat) ∧ vk = .int .i64 (kk : Nat) ∧ kk ≤ j ∧ Hid (Below B w wr ∧ B ≤ wr.heap.size ∧ RRow wr B (Fr B wr) A2 m c2 cs ∧ (∀ q ∈ cs, Gd q) ∧ M2 rs cs j kk)) (fun _ vj _ => m - (intOf vj).toNat)
      case atStart => exact ⟨0, 0, rs, Nat.zero_le _, rfl, rfl, Nat.le_refl _, Lib.hid ⟨HB4.out, HLe.out, HRow.out, HGs.out, M2.start rs⟩⟩
      case round =>
        obtain ⟨j, kk, cs, hj, rfl, rfl, hkj, HI⟩ := hrel
        clear HB4 HRow HLe HGs
        by_cases hjm : j < m
        · obtain ⟨g, rfl, hBg, hgw, hob⟩ := HI.out.2.2.1.some_ (by omega)
          obtain ⟨r, hr⟩ : ∃ r, rs[j]? = some r := ⟨rs[j]'(by have := HLr.out; omega), by simp⟩
          have hcr := HI.out.2.2.2.2.at_ hr
          obtain ⟨i0, i1, i2, i3, i4, i5⟩ := HI.out.2.2.1.cells_at hcr
          have HGr := Lib.hid (HI.out.2.2.2.1 r (List.mem_of_getElem? hcr))
          have HKr := Lib.hid (HI.out.2.2.1.kid r (List.mem_of_getElem? hcr))
          have HR := Lib.hid (And.intro hr hcr)
          obtain ⟨⟨ai, ag, aA, an, ac, al⟩, ⟨bi, bg, bA, bn, bc, bl⟩⟩ := r
          have HX := Lib.hid (RBox.new wr (⟨ai, ag, aA, an, ac, al⟩, ⟨bi, bg, bA, bn, bc, bl⟩))
          have HBx := Lib.hid (show Below wr.heap.size wr (wr.alloc (.cells (cells6 (⟨ai, ag, aA, an, ac, al⟩, ⟨bi, bg, bA, bn, bc, bl⟩)).toArray 69)) from (Below.refl _ _).alloc (Nat.le_refl _) _)
          simp only [cells6_eq] at HX HBx
          simp only at i0 i1 i2 i3 i4 i5
          have hji : (j : Int) < (m : Int) := by omega
          have hj0 : (0 : Int) ≤ (j : Int) := by omega
          have HGw := Lib.hid (And.intro hBg hgw)
          clear hr hcr hBg hob
          rcases Nat.eq_zero_or_pos kk with h0 | h0
          · have dk : decide (0 < (kk : Int)) = false := decide_eq_false (by omega)
            have dk2 : decide (0 < kk) = false := decide_eq_false (by omega)
            have HK0 := Lib.hid h0
            clear h0
            go_upto_region 14 with fail
            refine wp_region_H (by kernel_rfl) (fun z0 K0 hs0 => ?_)
            refine tkH 0 (v := ?tv0_6) K0 rfl (by kernel_rfl) ?tq0_6 (by kernel_rfl) (fun z5 hS => ?ty0_6) ?_
            case ty0_6 => go_simp; rfl
            case tq0_6 => exact fun _ _ _ h => h
            refine tkH 1 (v := ?tv1_7) K0 rfl (by kernel_rfl) ?tq1_7 (by kernel_rfl) (fun z5 hS => ?ty1_7) ?_
            case ty1_7 => go_simp; rfl
            case tq1_7 => exact fun _ _ _ h => h
            refine tkH 2 (v := ?tv2_8) K0 rfl (by kernel_rfl) ?tq2_8 (by kernel_rfl) (fun z5 hS => ?ty2_8) ?_
            case ty2_8 => go_simp; rfl
            case tq2_8 => exact fun _ _ _ h => h
            refine tkI 3 K0 rfl (by kernel_rfl) (fun _ _ _ h => h) (by kernel_rfl) ?_
            refine tkI 4 K0 rfl (by kernel_rfl) (fun _ _ _ h => h) (by kernel_rfl) ?_
            refine tkI 5 K0 rfl (by kernel_rfl) (fun _ _ _ h => h) (by kernel_rfl) ?_
            refine tkI 6 K0 rfl (by kernel_rfl) (fun _ _ _ h => h) (by kernel_rfl) ?_
            refine tkI 7 K0 rfl (by kernel_rfl) (fun _ _ _ h => h) (by kernel_rfl) ?_
            refine tkI 8 K0 rfl (by kernel_rfl) (fun _ _ _ h => h) (by kernel_rfl) ?_
            refine tkI 9 K0 rfl (by kernel_rfl) (fun _ _ _ h => h) (by kernel_rfl) ?_
            refine tkI 10 K0 rfl (by kernel_rfl) (fun _ _ _ h => h) (by kernel_rfl) ?_
            refine tkI 11 K0 rfl (by kernel_rfl) (fun _ _ _ h => h) (by kernel_rfl) ?_
            refine tkI 12 K0 rfl (by kernel_rfl) (fun _ _ _ h => h) (by kernel_rfl) ?_
            refine tkI 13 K0 rfl (by kernel_rfl) (fun _ _ _ h => h) (by kernel_rfl) ?_
            refine wpAnyH_one (i := 14) (by kernel_rfl) rfl (by kernel_rfl) (fun K hK => ?_)
            go_simp
            refine hK.out _ _ K0 ?_
            refine wpAnyH_end (by kernel_rfl) ?_ _
            have HBZ := Lib.hid K0
            have HBW := Lib.hid (HBx.out.trans (K0.mono HBx.out.size))
            clear K0 hs0 dk dk2
            have HX7 := Lib.hid (HX.out.below (HBZ.out))
            have HRw := Lib.hid (HI.out.2.2.1.fr HBW.out)
            have hkk : kk < m := by omega
            obtain ⟨t, ht⟩ : ∃ t, cs[kk]? = some t := ⟨cs[kk]'(by have := HRw.out.len; omega), by simp⟩
            obtain ⟨v0, v1, v2, v3, v4, v5⟩ := HRw.out.cells_at ht
            have u0 := HRw.out.frozen (kk * 6)
            have u1 := HRw.out.frozen (kk * 6 + 1)
            have u2 := HRw.out.frozen (kk * 6 + 2)
            have u3 := HRw.out.frozen (kk * 6 + 3)
            have u4 := HRw.out.frozen (kk * 6 + 4)
            have u5 := HRw.out.frozen (kk * 6 + 5)
            have HKz := Lib.hid (HKr.out.keep (Q := fun b => Fr B z0 b ∧ (Value.slice (some ⟨g, 0, none⟩) m c2).ownBlock ≠ some b) (fun b hb => ⟨⟨⟨hb.1.1, Nat.lt_of_lt_of_le hb.1.2 HBW.out.size⟩, hb.2⟩, HBW.out.block b hb.1.2⟩))
            have HP6 := Lib.hid (HRw.out.put6 (fun b hb => hb.2) ht HKz.out)
            have HM2 := Lib.hid (HI.out.2.2.2.2.push HR.out.1 (fun p s e => absurd e (by have := HK0.out; omega)))
            have HG2 := Lib.hid (show ∀ q ∈ cs.set kk (⟨ai, ag, aA, an, ac, al⟩, ⟨bi, bg, bA, bn, bc, bl⟩), Gd q from fun q hq => by
              rcases List.mem_or_eq_of_mem_set hq with h1 | h1
              · exact HI.out.2.2.2.1 q h1
              · rw [h1]; exact HGr.out)
            obtain ⟨y0, y1, y2, y3, y4, y5⟩ := HX7.out.cells
            have hk0 : (0 : Int) ≤ (kk : Int) := by omega
            have hkm : (kk : Int) < (m : Int) := by omega
            simp only at y0 y1 y2 y3 y4 y5 HP6
            clear ht
            go_wp2_with fail
            go_roundw
            case rel =>
              have hz := HBW.out.size
              refine ⟨j + 1, kk + 1, _, by omega, by go_num, by go_num, by omega, Lib.hid ⟨(HI.out.1.trans (HBW.out.mono HI.out.2.1)).grown HP6.out.2 (Nat.le_trans HI.out.2.1 hz) (fun j e => by injection e with e; have := HGw.out.1; omega), Nat.le_trans (Nat.le_trans HI.out.2.1 hz) HP6.out.2.size, HP6.out.1.wide (fun b hb => ⟨hb.1, Nat.lt_of_lt_of_le hb.2 HP6.out.2.size⟩), HG2.out, HM2.out⟩⟩
            case measure => simp [intOf]; omega
          · have dk : decide (0 < (kk : Int)) = true := decide_eq_true (by omega)
            have dk2 : decide (0 < kk) = true := decide_eq_true (by omega)
            obtain ⟨p, hp⟩ : ∃ p, kk = p + 1 := ⟨kk - 1, by omega⟩
            have hkp : (kk : Int) - 1 = (p : Int) := by omega
            obtain ⟨s, hcs⟩ : ∃ s, cs[p]? = some s := ⟨cs[p]'(by have := HI.out.2.2.1.len; omega), by simp⟩
            have HCs := Lib.hid hcs
            have HGs := Lib.hid (HI.out.2.2.2.1 s (List.mem_of_getElem? hcs))
            have HKs := Lib.hid (HI.out.2.2.1.kid s (List.mem_of_getElem? hcs))
            have HKP := Lib.hid hp
            have hp0 : (0 : Int) ≤ (p : Int) := by omega
            have hpm : (p : Int) < (m : Int) := by omega
            have hp9 : (p : Int) ≤ 1073741824 := by have := HMn.out; omega
            have hwp : IntKind.i64.wrap (p : Int) = (p : Int) := IntWalk.i64_in _ (by omega)
            obtain ⟨⟨ci, cg, cA, cn, cc, cl⟩, ⟨di, dg, dA, dn, dc, dl⟩⟩ := s
            have HSt := Lib.hid (fun z (hz : Below wr.heap.size wr z) => step_any (w := z) 1 (.inl rfl) (HKs.out.b.keep (Q := Fr B wr) (fun b hb => ⟨hb.1, hz.block b hb.1.2⟩)) (fun x hx => Nat.lt_of_lt_of_le hx.2 hz.size) HGs.out.1.2.tri (fun _ => HGs.out.1.2) HGs.out.2.2)
            have HCa := Lib.hid (fun z (hz : Below wr.heap.size wr z) (d : Bd) (hd : d.At z (fun x => x < z.heap.size)) (td : d.Tri) => fcmp_any (w := z) (HKr.out.a.keep (Q := fun x => x < z.heap.size) (fun b hb => ⟨Nat.lt_of_lt_of_le hb.1.2 hz.size, hz.block b hb.1.2⟩)) hd (fun x hx => hx) HGr.out.1.1.tri td)
            have HCb := Lib.hid (fun z (hz : Below wr.heap.size wr z) => fcmp_any (w := z) (HKr.out.b.keep (Q := fun x => x < z.heap.size) (fun b hb => ⟨Nat.lt_of_lt_of_le hb.1.2 hz.size, hz.block b hb.1.2⟩)) (HKs.out.b.keep (Q := fun x => x < z.heap.size) (fun b hb => ⟨Nat.lt_of_lt_of_le hb.1.2 hz.size, hz.block b hb.1.2⟩)) (fun x hx => hx) HGr.out.1.2.tri HGs.out.1.2.tri)
            have HL2 := Lib.hid (cmpB_ge HGr.out.1.2.tri HGs.out.1.2.tri)
            obtain ⟨v2, hv2⟩ : ∃ v, cmpB ⟨bi, bg, bA, bn, bc, bl⟩ ⟨di, dg, dA, dn, dc, dl⟩ = v := ⟨_, rfl⟩
            simp only [Bd.v, Bd.vals] at HSt HCa HCb
            rw [hv2] at HCb HL2
            clear hcs hp h0 hv2
            go_upto_region 14 with fail
            refine wp_region_H (by kernel_rfl) (fun z0 K0 hs0 => ?_)
            refine tkH 0 (v := ?tv0_9) K0 rfl (by kernel_rfl) ?tq0_9 (by kernel_rfl) (fun z5 hS => ?ty0_9) ?_
            case ty0_9 => go_simp; rfl
            case tq0_9 => exact fun _ _ _ h => h
            refine tkH 1 (v := ?tv1_10) K0 rfl (by kernel_rfl) ?tq1_10 (by kernel_rfl) (fun z5 hS => ?ty1_10) ?_
            case ty1_10 => go_simp; rfl
            case tq1_10 => exact fun _ _ _ h => h
            refine tkH 2 (v := ?tv2_11) K0 rfl (by kernel_rfl) ?tq2_11 (by kernel_rfl) (fun z5 hS => ?ty2_11) ?_
            case ty2_11 => go_simp; rfl
            case tq2_11 => exact fun _ _ _ h => h
            refine tkH 3 (v := ?tv3_12) K0 rfl (by kernel_rfl) ?tq3_12 (by kernel_rfl) (fun z5 hS => ?ty3_12) ?_
            case ty3_12 => go_simp; rfl
            case tq3_12 => exact fun _ _ _ h => h
            refine tkH 4 (v := ?tv4_13) K0 rfl (by kernel_rfl) ?tq4_13 (by kernel_rfl) (fun z5 hS => ?ty4_13) ?_
            case ty4_13 => obtain ⟨q0, q1, q2, q3, q4, q5⟩ := (HX.out.below hS).cells; go_simp; rfl
            case tq4_13 => exact fun _ _ _ h => h
            refine tkH 5 (v := ?tv5_14) K0 rfl (by kernel_rfl) ?tq5_14 (by kernel_rfl) (fun z5 hS => ?ty5_14) ?_
            case ty5_14 => go_simp; rfl
            case tq5_14 => exact fun _ _ _ h => h
            refine tkH 6 (v := ?tv6_15) K0 rfl (by kernel_rfl) ?tq6_15 (by kernel_rfl) (fun z5 hS => ?ty6_15) ?_
            case ty6_15 => go_simp; rfl
            case tq6_15 => exact fun _ _ _ h => h
            refine tkH 7 (v := ?tv7_16) K0 rfl (by kernel_rfl) ?tq7_16 (by kernel_rfl) (fun z5 hS => ?ty7_16) ?_
            case ty7_16 => go_simp; rfl
            case tq7_16 => exact fun _ _ _ h => h
            refine tkH 8 (v := ?tv8_17) K0 rfl (by kernel_rfl) ?tq8_17 (by kernel_rfl) (fun z5 hS => ?ty8_17) ?_
            case ty8_17 => go_simp; rfl
            case tq8_17 => exact fun _ _ _ h => h
            refine tkH 9 (v := ?tv9_18) K0 rfl (by kernel_rfl) ?tq9_18 (by kernel_rfl) (fun z5 hS => ?ty9_18) ?_
            case ty9_18 => go_simp; rfl
            case tq9_18 => exact fun _ _ _ h => h
            refine tkH 10 (v := ?tv10_19) K0 rfl (by kernel_rfl) ?tq10_19 (by kernel_rfl) (fun z5 hS => ?ty10_19) ?_
            case ty10_19 => obtain ⟨q0, q1, q2, q3, q4, q5⟩ := (HI.out.2.2.1.fr (HBx.out.trans (hS.mono HBx.out.size))).cells_at HCs.out; go_simp; rfl
            case tq10_19 => exact fun _ _ _ h => h
            refine wpAnyH_one (i := 11) (by kernel_rfl) rfl (by kernel_rfl) (fun K hK => ?_)
            go_simp
            (with_reducible refine (HSt.out _ (HBx.out.trans (K0.mono HBx.out.size))).mono ?_)
            rintro e z1 ⟨⟨ei, eg, eA, en, ec, el⟩, rfl, het, hNe, hee, hb1⟩
            have K1 := K0.trans (hb1.mono K0.size)
            refine hK.out _ _ K1 ?_
            simp only [Bd.v, Bd.vals]
            refine wpAnyH_one (i := 12) (by kernel_rfl) rfl (by kernel_rfl) (fun K hK => ?_)
            go_simp
            (with_reducible refine (HCa.out _ (HBx.out.trans (K1.mono HBx.out.size)) ⟨ei, eg, eA, en, ec, el⟩ (het.wide (fun x hx => by
              rcases hx with hx | hx
              · exact Nat.lt_of_lt_of_le hx.2 (HBx.out.trans (K1.mono HBx.out.size)).size
              · exact hx.2)) hNe.tri).mono ?_)
            rintro e z2 ⟨rfl, hg2⟩
            have K2 := K1.trans (hg2.bel.mono K1.size)
            refine hK.out _ _ K2 ?_
            have HL1 := Lib.hid (cmpB_ge HGr.out.1.1.tri hNe.tri)
            rw [hee, ← succE_sh] at HL1
            obtain ⟨v1, hv1⟩ : ∃ v, cmpB ⟨ai, ag, aA, an, ac, al⟩ ⟨ei, eg, eA, en, ec, el⟩ = v := ⟨_, rfl⟩
            rw [hv1] at HL1
            rw [hv1]
            clear hv1
            refine tkH 13 (v := ?tv13_20) K2 rfl (by kernel_rfl) ?tq13_20 (by kernel_rfl) (fun z5 hS => ?ty13_20) ?_
            case ty13_20 => go_simp; rfl
            case tq13_20 => exact fun _ _ _ h => h
            refine wpAnyH_one (i := 14) (by kernel_rfl) rfl (by kernel_rfl) (fun K hK => ?_)
            go_simp
            refine hK.out _ _ K2 ?_
            refine wpAnyH_end (by kernel_rfl) ?_ _
            have HBZ := Lib.hid K2
            have HBW := Lib.hid (HBx.out.trans (K2.mono HBx.out.size))
            clear K0 K1 K2 hs0 dk dk2 het hNe hee hb1 hg2 HSt HCa i0 i1 i2 i3 i4 i5
            by_cases hle : v1 ≤ 0
            · have dv : decide (v1 ≤ 0) = true := decide_eq_true hle
              have HLE := Lib.hid (HL1.out.1 hle)
              have HX7 := Lib.hid (HX.out.below HBZ.out)
              have HRw := Lib.hid (HI.out.2.2.1.fr HBW.out)
              go_upto_region 15 with fail
              refine wp_region_H (by kernel_rfl) (fun z0 K0 hs0 => ?_)
              refine tkH 0 (v := ?tv0_21) K0 rfl (by kernel_rfl) ?tq0_21 (by kernel_rfl) (fun z5 hS => ?ty0_21) ?_
              case ty0_21 => go_simp; rfl
              case tq0_21 => exact fun _ _ _ h => h
              refine tkH 1 (v := ?tv1_22) K0 rfl (by kernel_rfl) ?tq1_22 (by kernel_rfl) (fun z5 hS => ?ty1_22) ?_
              case ty1_22 => obtain ⟨q0, q1, q2, q3, q4, q5⟩ := (HX7.out.below hS).cells; go_simp; rfl
              case tq1_22 => exact fun _ _ _ h => h
              refine tkH 2 (v := ?tv2_23) K0 rfl (by kernel_rfl) ?tq2_23 (by kernel_rfl) (fun z5 hS => ?ty2_23) ?_
              case ty2_23 => go_simp; rfl
              case tq2_23 => exact fun _ _ _ h => h
              refine tkH 3 (v := ?tv3_24) K0 rfl (by kernel_rfl) ?tq3_24 (by kernel_rfl) (fun z5 hS => ?ty3_24) ?_
              case ty3_24 => go_simp; rfl
              case tq3_24 => exact fun _ _ _ h => h
              refine tkH 4 (v := ?tv4_25) K0 rfl (by kernel_rfl) ?tq4_25 (by kernel_rfl) (fun z5 hS => ?ty4_25) ?_
              case ty4_25 => go_simp; rfl
              case tq4_25 => exact fun _ _ _ h => h
              refine tkH 5 (v := ?tv5_26) K0 rfl (by kernel_rfl) ?tq5_26 (by kernel_rfl) (fun z5 hS => ?ty5_26) ?_
              case ty5_26 => go_simp; rfl
              case tq5_26 => exact fun _ _ _ h => h
              refine tkH 6 (v := ?tv6_27) K0 rfl (by kernel_rfl) ?tq6_27 (by kernel_rfl) (fun z5 hS => ?ty6_27) ?_
              case ty6_27 => go_simp; rfl
              case tq6_27 => exact fun _ _ _ h => h
              refine tkH 7 (v := ?tv7_28) K0 rfl (by kernel_rfl) ?tq7_28 (by kernel_rfl) (fun z5 hS => ?ty7_28) ?_
              case ty7_28 => obtain ⟨q0, q1, q2, q3, q4, q5⟩ := (HRw.out.fr hS).cells_at HCs.out; go_simp; rfl
              case tq7_28 => exact fun _ _ _ h => h
              refine wpAnyH_one (i := 8) (by kernel_rfl) rfl (by kernel_rfl) (fun K hK => ?_)
              go_simp
              (with_reducible refine (HCb.out _ (HBW.out.trans (K0.mono HBW.out.size))).mono ?_)
              rintro e z3 ⟨rfl, hg3⟩
              have K3 := K0.trans (hg3.bel.mono K0.size)
              refine hK.out _ _ K3 ?_
              refine wpAnyH_one (i := 9) (by kernel_rfl) rfl (by kernel_rfl) (fun K hK => ?_)
              go_simp
              refine hK.out _ _ K3 ?_
              refine wpAnyH_end (by kernel_rfl) ?_ _
              have HB3 := Lib.hid (HBW.out.trans (K3.mono HBW.out.size))
              have HX8 := Lib.hid (HX7.out.below K3)
              have HR3 := Lib.hid (HRw.out.fr K3)
              clear K0 K3 hs0 hg3 HX7 HRw
              by_cases hgt : 0 < v2
              · have dw : decide (0 < v2) = true := decide_eq_true hgt
                have HM2 := Lib.hid ((HKP.out ▸ HI.out.2.2.2.2 : M2 rs cs j (p + 1)).wide HCs.out HR.out.1 HLE.out (fun h => absurd (HL2.out.2 h) (by omega)))
                have HGn := Lib.hid (show Gd (⟨ci, cg, cA, cn, cc, cl⟩, ⟨bi, bg, bA, bn, bc, bl⟩) from ⟨⟨HGs.out.1.1, HGr.out.1.2⟩, HGs.out.2.1, HGr.out.2.2⟩)
                have HG2 := Lib.hid (show ∀ q ∈ cs.set p (⟨ci, cg, cA, cn, cc, cl⟩, ⟨bi, bg, bA, bn, bc, bl⟩), Gd q from fun q hq => by
                  rcases List.mem_or_eq_of_mem_set hq with h1 | h1
                  · exact HI.out.2.2.2.1 q h1
                  · rw [h1]; exact HGn.out)
                have HKz := Lib.hid (HKr.out.b.keep (Q := fun b => Fr B z3 b ∧ (Value.slice (some ⟨g, 0, none⟩) m c2).ownBlock ≠ some b) (fun b hb => ⟨⟨⟨hb.1.1, Nat.lt_of_lt_of_le hb.1.2 HB3.out.size⟩, hb.2⟩, HB3.out.block b hb.1.2⟩))
                have HP3 := Lib.hid (HR3.out.put3 (fun b hb => hb.2) HCs.out HKz.out)
                obtain ⟨y0, y1, y2, y3, y4, y5⟩ := HX8.out.cells
                obtain ⟨w0, w1, w2, w3, w4', w5⟩ := HR3.out.cells_at HCs.out
                have u3 := HR3.out.frozen (p * 6 + 3)
                have u4 := HR3.out.frozen (p * 6 + 4)
                have u5 := HR3.out.frozen (p * 6 + 5)
                simp only at y0 y1 y2 y3 y4 y5 HP3
                go_wp2_with fail
                go_roundw
                case rel =>
                  have hz := HB3.out.size
                  refine ⟨j + 1, kk, _, by omega, by go_num, rfl, by omega, Lib.hid ⟨(HI.out.1.trans (HB3.out.mono HI.out.2.1)).grown HP3.out.2 (Nat.le_trans HI.out.2.1 hz) (fun j e => by injection e with e; have := HGw.out.1; omega), Nat.le_trans (Nat.le_trans HI.out.2.1 hz) HP3.out.2.size, HP3.out.1.wide (fun b hb => ⟨hb.1, Nat.lt_of_lt_of_le hb.2 HP3.out.2.size⟩), HG2.out, by rw [HKP.out]; exact HM2.out⟩⟩
                case measure => simp [intOf]; omega
              · have dw : decide (0 < v2) = false := decide_eq_false hgt
                have HM2 := Lib.hid ((HKP.out ▸ HI.out.2.2.2.2 : M2 rs cs j (p + 1)).keep HCs.out HR.out.1 HLE.out (HL2.out.1 (by omega)))
                go_wp2_with fail
                go_roundw
                case rel =>
                  have hz := HB3.out.size
                  refine ⟨j + 1, kk, cs, by omega, by go_num, rfl, by omega, Lib.hid ⟨HI.out.1.trans (HB3.out.mono HI.out.2.1), Nat.le_trans HI.out.2.1 hz, HR3.out, HI.out.2.2.2.1, by rw [HKP.out]; exact HM2.out⟩⟩
                case measure => simp [intOf]; omega
            · have dv : decide (v1 ≤ 0) = false := decide_eq_false hle
              have HNle := Lib.hid (show ¬ leE (Bd.ed ⟨ai, ag, aA, an, ac, al⟩) (succE (Bd.ed ⟨di, dg, dA, dn, dc, dl⟩)) from fun h => hle (HL1.out.2 h))
              have HX7 := Lib.hid (HX.out.below (HBZ.out))
              have HRw := Lib.hid (HI.out.2.2.1.fr HBW.out)
              have hkk : kk < m := by omega
              obtain ⟨t, ht⟩ : ∃ t, cs[kk]? = some t := ⟨cs[kk]'(by have := HRw.out.len; omega), by simp⟩
              obtain ⟨v0, v1, v2, v3, v4, v5⟩ := HRw.out.cells_at ht
              have u0 := HRw.out.frozen (kk * 6)
              have u1 := HRw.out.frozen (kk * 6 + 1)
              have u2 := HRw.out.frozen (kk * 6 + 2)
              have u3 := HRw.out.frozen (kk * 6 + 3)
              have u4 := HRw.out.frozen (kk * 6 + 4)
              have u5 := HRw.out.frozen (kk * 6 + 5)
              have HKz := Lib.hid (HKr.out.keep (Q := fun b => Fr B z2 b ∧ (Value.slice (some ⟨g, 0, none⟩) m c2).ownBlock ≠ some b) (fun b hb => ⟨⟨⟨hb.1.1, Nat.lt_of_lt_of_le hb.1.2 HBW.out.size⟩, hb.2⟩, HBW.out.block b hb.1.2⟩))
              have HP6 := Lib.hid (HRw.out.put6 (fun b hb => hb.2) ht HKz.out)
              have HM2 := Lib.hid (HI.out.2.2.2.2.push HR.out.1 (fun p' s' e hs' => by have e2 : p' = p := (by have := HKP.out; omega); subst e2; rw [HCs.out] at hs'; injection hs' with hs'; rw [← hs']; exact HNle.out))
              have HG2 := Lib.hid (show ∀ q ∈ cs.set kk (⟨ai, ag, aA, an, ac, al⟩, ⟨bi, bg, bA, bn, bc, bl⟩), Gd q from fun q hq => by
                rcases List.mem_or_eq_of_mem_set hq with h1 | h1
                · exact HI.out.2.2.2.1 q h1
                · rw [h1]; exact HGr.out)
              obtain ⟨y0, y1, y2, y3, y4, y5⟩ := HX7.out.cells
              have hk0 : (0 : Int) ≤ (kk : Int) := by omega
              have hkm : (kk : Int) < (m : Int) := by omega
              simp only at y0 y1 y2 y3 y4 y5 HP6
              clear ht
              go_wp2_with fail
              go_roundw
              case rel =>
                have hz := HBW.out.size
                refine ⟨j + 1, kk + 1, _, by omega, by go_num, by go_num, by omega, Lib.hid ⟨(HI.out.1.trans (HBW.out.mono HI.out.2.1)).grown HP6.out.2 (Nat.le_trans HI.out.2.1 hz) (fun j e => by injection e with e; have := HGw.out.1; omega), Nat.le_trans (Nat.le_trans HI.out.2.1 hz) HP6.out.2.size, HP6.out.1.wide (fun b hb => ⟨hb.1, Nat.lt_of_lt_of_le hb.2 HP6.out.2.size⟩), HG2.out, HM2.out⟩⟩
              case measure => simp [intOf]; omega
        · have hjm2 : j = m := by omega
          have hji : ¬ (j : Int) < (m : Int) := by omega
          have HM := Lib.hid HI.out.2.2.2.2
          have HT := Lib.hid (HI.out.2.2.1.take (k := kk) (by omega))
          have HD := Lib.hid (HM.out.done (by rw [HLr.out]; exact hjm2))
          have HN := Lib.hid (norm_of HOs.out HPw.out)
          have hk0 : (0 : Int) ≤ (kk : Int) := by omega
          have hkm : (kk : Int) ≤ (m : Int) := by omega
          have hkc : (kk : Int) ≤ (c2 : Int) := by omega
          have hkn : kk ≤ n := by have := HMn.out; omega
          have HGt := Lib.hid (show ∀ q ∈ cs.take kk, Gd q from fun q hq => HI.out.2.2.2.1 q (List.mem_of_mem_take hq))
          have HBw := Lib.hid HI.out.1
          clear hjm2
          go_wp2_with fail
          go_ret
          have hB' := HB.out
          subst hB'
          exact ⟨_, _, _, _, rfl, HT.out, HGt.out, by rw [HD.out]; exact HN.out.1, by rw [HD.out]; exact HN.out.2.1, by rw [HD.out]; exact HN.out.2.2, hkn, HBw.out⟩
end Go.Proofs.YtpikjceodmepiaaGreatDoor


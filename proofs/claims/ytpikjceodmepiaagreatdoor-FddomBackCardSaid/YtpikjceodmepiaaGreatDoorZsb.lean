import Derived.Test.YtpikjceodmepiaaGreatDoorYwb
set_option linter.unusedVariables false
set_option linter.unusedSimpArgs false
namespace Go.Proofs.YtpikjceodmepiaaGreatDoor
open Go.RowKit Hb Hf
set_option linter.unusedVariables false
set_option linter.unusedSimpArgs false
attribute [local go_sem ↓] Go.wp_at_zero Go.wp_at_succ
/-! ### Shift$1: an end moved (second seat) -/
def MovePost (w : World) (e0 : Ed) (e : Ending) (w' : World) : Prop := ∃ d : Bd, e = .returned d.v ∧ d.At w' (Fr w.heap.size w') ∧ d.Nrm ∧ d.ed = e0 ∧ Below w.heap.size w w'
theorem EBox.set2 {w : World} {g : Nat} {b : Bd} (h : EBox w g b) (x : Bool) (A : Option Addr) (n c : Nat) (l : List Nat) : EBox ((w.setCell ⟨g, 1, none⟩ (.bool x)).setCell ⟨g, 2, none⟩ (.slice A n c)) g ⟨b.i, x, A, n, c, l⟩ ∧ w.grownBy ((w.setCell ⟨g, 1, none⟩ (.bool x)).setCell ⟨g, 2, none⟩ (.slice A n c)) (some g) := by
  refine ⟨?_, gb_setCell (gb_setCell (gb_refl _ _) _ _) _ _⟩
  unfold EBox at h ⊢
  simp [World.setCell, Array.getElem?_modify, h, Bd.vals]
set_option maxRecDepth 100000 in
set_option maxHeartbeats 4000000 in
theorem move_ok {b : Bd} {P : Nat → Prop} {w : World} {Gn nn nc : Nat} {ng : Bool} {nA : Option Addr} {nl : List Nat} {n : Int} (hb : b.At w P) (hP : ∀ x, P x → x < w.heap.size) (hN : b.Nrm)
    (hn : IBox w Gn ng (.slice nA nn nc)) (hl : LimP w (fun x => x < w.heap.size) nA nn nc nl) (hv : ival ng nl = n) (hm : b.n ≤ 1000) (hm2 : nn ≤ 1000) :
    Calls Tryz.prog 50 #[b.v, .pointer (some ⟨Gn, 0, none⟩)] w (MovePost w (shE n b.ed)) := by
  have HE1 := Lib.hid (EBox.new w b)
  have HBa := Lib.hid (show Below w.heap.size w (w.alloc (.cells b.vals.toArray 67)) from (Below.refl _ _).alloc (Nat.le_refl _) _)
  have HE2 := Lib.hid (EBox.new (w.alloc (.cells b.vals.toArray 67)) (ib 0))
  rw [World.size_alloc] at HE2
  have HBb := Lib.hid (show Below (w.heap.size + 1) (w.alloc (.cells b.vals.toArray 67)) ((w.alloc (.cells b.vals.toArray 67)).alloc (.cells (ib 0).vals.toArray 67)) from (Below.refl _ _).alloc (by simp) _)
  have HE3 := Lib.hid (HE1.out.below (HBb.out.mono (by simp)))
  have HBt := Lib.hid (show Below w.heap.size w ((w.alloc (.cells b.vals.toArray 67)).alloc (.cells (ib 0).vals.toArray 67)) from HBa.out.trans (HBb.out.mono (by omega)))
  have HZ2 := Lib.hid (show ((w.alloc (.cells b.vals.toArray 67)).alloc (.cells (ib 0).vals.toArray 67)).heap.size = w.heap.size + 2 by simp)
  have HI := Lib.hid (hn.below HBt.out)
  have HPl := Lib.hid (fun (y : World) (hy : Below w.heap.size w y) => plus_any (w := y) b.g ng ((hb.lim.sl (B := w.heap.size) hP).below hy (Nat.le_refl _)) ((hl.sl (B := w.heap.size) (fun x hx => hx)).below hy (Nat.le_refl _)) (by omega) (by omega) hy.size hy.size)
  have hgn : Gn < w.heap.size := hn.lt
  obtain ⟨bi, bg, bA, bn, bc, bl⟩ := b
  have HN := Lib.hid hN
  simp only [Bd.v, Bd.vals, ib] at HE2 HE3 HBt HZ2 HI HPl ⊢
  obtain ⟨x0, x1, x2⟩ := HE3.out.cells
  obtain ⟨f0, f1, f2⟩ := HE3.out.frozens
  obtain ⟨y0, y1, y2⟩ := HE2.out.cells
  obtain ⟨g0, g1, g2⟩ := HE2.out.frozens
  obtain ⟨n0, n1⟩ := HI.out.cells
  simp only at x0 x1 x2 y0 y1 y2
  have HLb := Lib.hid hb
  clear HE1 HBa HBb hN hn hm hm2 hb
  by_cases hi : bi = 0
  · subst hi
    obtain ⟨zz, hzz⟩ : ∃ z, ival bg bl + ival ng nl = z := ⟨_, rfl⟩
    rw [hzz] at HPl
    have HEd := Lib.hid (show shE n (Bd.ed ⟨0, bg, bA, bn, bc, bl⟩) = .num zz from by rw [Bd.ed_zero rfl]; show Ed.num (ival bg bl + n) = _; rw [← hv, hzz])
    clear hzz HLb
    rw [HEd.out]
    go_enter Tryz.func50, Tryz.ntmps50
    go_wp2_with fail
    (with_reducible refine (HPl.out _ HBt.out).mono ?_)
    rintro e w3 ⟨v, he, hr, hb3⟩
    obtain ⟨A2, c2, hv2, hat⟩ := hr.nb
    subst hv2
    subst he
    have HAt := Lib.hid hat
    have HB3 := Lib.hid (HBt.out.trans (hb3.mono HBt.out.size))
    have HF3 := Lib.hid (HE3.out.below hb3)
    have HG3 := Lib.hid (HE2.out.below hb3)
    have HS3 := Lib.hid hb3.size
    clear x0 x1 x2 f0 f1 f2 y0 y1 y2 g0 g1 g2 n0 n1 hb3 hr hat HBt HE3 HE2 HI HPl
    generalize ((w.alloc (.cells #[.int .i64 0, .bool bg, .slice bA bn bc] 67)).alloc (.cells #[.int .i64 0, .bool false, .slice none 0 0] 67)) = w2 at *
    obtain ⟨x0, x1, x2⟩ := HF3.out.cells
    obtain ⟨f0, f1, f2⟩ := HF3.out.frozens
    simp only at x0 x1 x2
    have hxl := HF3.out.lt
    have HT1 := Lib.hid (HF3.out.set2 (decide (zz < 0)) A2 (digs W zz.natAbs).length c2 (digs W zz.natAbs))
    simp only at HT1
    go_upto_region 3 with fail
    generalize (w3.setCell ⟨w.heap.size, 1, none⟩ (.bool (decide (zz < 0)))).setCell ⟨w.heap.size, 2, none⟩ (.slice A2 (digs W zz.natAbs).length c2) = w4 at *
    have HG4 := Lib.hid (HG3.out.gro HT1.out.2 (by omega))
    clear x0 x1 x2 f0 f1 f2
    obtain ⟨x0, x1, x2⟩ := HT1.out.1.cells
    obtain ⟨y0, y1, y2⟩ := HG4.out.cells
    obtain ⟨g0, g1, g2⟩ := HG4.out.frozens
    simp only at x0 x1 x2 y0 y1 y2
    have hyl := HG4.out.lt
    have hz4 := HT1.out.2.size
    have HSet := Lib.hid (HG4.out.set3 (nb zz A2 c2))
    simp only [nb] at HSet
    go_wp2_with fail
    have hz2 := HZ2.out
    have hs3 := HS3.out
    obtain ⟨s0, s1, s2⟩ := HSet.out.1.cells
    simp only at s0 s1 s2
    have HGo := Lib.hid (show MovePost w (.num zz) (.returned (.agg #[.int .i64 0, .bool (decide (zz < 0)), .slice A2 (digs W zz.natAbs).length c2])) _ from
      ⟨nb zz A2 c2, rfl, HAt.out.keep (fun b hb => ⟨⟨by have := hb.1; omega, by have := hb.2; have := HSet.out.2.size; omega⟩, (HSet.out.2.block b (by have := hb.2; omega) (fun e => by injection e with e; have := hb.1; omega)).trans (HT1.out.2.block b hb.2 (fun e => by injection e with e; have := hb.1; omega))⟩), nb_nrm _ _ _, nb_ed _ _ _,
        (HB3.out.grown HT1.out.2 (by omega) (fun j e => by injection e with e; omega)).grown HSet.out.2 (by omega) (fun j e => by injection e with e; omega)⟩)
    exact bodyPost_ret (v := .agg #[.int .i64 0, .bool (decide (zz < 0)), .slice A2 (digs W zz.natAbs).length c2]) (by simp [results, Tryz.results50, go_sem, s0, s1, s2]) rfl HGo.out
  · have hib : (bi == 0) = false := beq_eq_false_iff_ne.2 hi
    have HNx := Lib.hid (EBox.new (w.alloc (.cells #[.int .i64 bi, .bool bg, .slice bA bn bc] 67)) ⟨bi, bg, bA, bn, bc, bl⟩)
    have HBx := Lib.hid (show Below w.heap.size w ((w.alloc (.cells #[.int .i64 bi, .bool bg, .slice bA bn bc] 67)).alloc (.cells #[.int .i64 bi, .bool bg, .slice bA bn bc] 67)) from ((Below.refl _ _).alloc (Nat.le_refl _) _).alloc (by simp) _)
    rw [World.size_alloc] at HNx
    simp only [Bd.vals] at HNx
    obtain ⟨s0, s1, s2⟩ := HNx.out.cells
    simp only at s0 s1 s2
    have HO := Lib.hid (HN.out.out hi)
    have HGo := Lib.hid (fun (w' : World) (hw : Below w.heap.size w w') => show MovePost w (shE n (Bd.ed ⟨bi, bg, bA, bn, bc, bl⟩)) (.returned (.agg #[.int .i64 bi, .bool bg, .slice bA bn bc])) w' from
      ⟨⟨bi, bg, bA, bn, bc, bl⟩, rfl, ⟨by
        have h1 := HLb.out.lim
        have h2 := HO.out.1
        simp only at h1 h2 ⊢
        subst h2
        have h3 := h1.len
        simp at h3
        subst h3
        exact LimP.nil _ _ _ h1.max, HLb.out.r1, HLb.out.r2⟩, HN.out, by
        rcases (by omega : bi < 0 ∨ 0 < bi) with h | h
        · rw [Bd.ed_lo h]; rfl
        · rw [Bd.ed_hi h]; rfl, hw⟩)
    clear HI HPl HLb
    go_enter Tryz.func50, Tryz.ntmps50
    go_wp2_with fail
    exact bodyPost_ret (v := .agg #[.int .i64 bi, .bool bg, .slice bA bn bc]) (by simp [results, Tryz.results50, go_sem, s0, s1, s2]) rfl (HGo.out _ HBx.out)
end Go.Proofs.YtpikjceodmepiaaGreatDoor


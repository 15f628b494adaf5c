import Derived.Test.YtpikjceodmepiaaAhm
set_option linter.unusedVariables false
set_option linter.unusedSimpArgs false
namespace Go.Proofs.Ytpikjceodmepiaa
open Go.RowKit Hb Hf
set_option linter.unusedVariables false
set_option linter.unusedSimpArgs false
attribute [local go_sem ↓] Go.wp_at_zero Go.wp_at_succ
/-! ### the reference: Normal -/
/-- what comes in: a set of the reference's, not too great -/
structure RefI (w : World) (P : Nat → Prop) (A : Option Addr) (n c : Nat) (ps : List Rg) : Prop where
  set : RefS w P A n c ps
  sz : Bn2 999999990 (ps.map edsS)
  len : n ≤ 1000000000
theorem RefI.keep {w w' : World} {P Q : Nat → Prop} {A : Option Addr} {n c : Nat} {ps : List Rg} (h : RefI w P A n c ps) (hb : ∀ b, P b → Q b ∧ w'.heap[b]? = w.heap[b]?) : RefI w' Q A n c ps := ⟨h.set.keep hb, h.sz, h.len⟩
theorem rNormal_any {w : World} {P : Nat → Prop} {A : Option Addr} {n c : Nat} {ps : List Rg} (h : RefI w P A n c ps) (hP : ∀ b, P b → b < w.heap.size) :
    Calls Try.prog 36 #[.slice A n c] w (BuiltPost w (ps.map edsS)) := by
  have HB := Lib.hid (built0_any h.set hP h.sz (Nat.le_refl _) h.len)
  unfold BuiltPost at *
  generalize w.heap.size = B at *
  clear h hP
  go_enter Try.func36, Try.ntmps36
  go_wp2_with fail
  (with_reducible refine HB.out.mono ?_)
  rintro e w2 ⟨A1, n1, c1, qs, he, hr⟩
  subst he
  have key : BuiltPostB B w (ps.map edsS) (.returned (.slice A1 n1 c1)) w2 := ⟨A1, n1, c1, qs, rfl, hr⟩
  clear hr
  go_wp2_with fail
  exact bodyPost_ret (v := .slice A1 n1 c1) (by simp [results, Try.results36, go_sem]) rfl key
/-! ### the reference: Take of one set -/
def tkC (L N : List R) : Int := if L.any lngS = true then 10 else if 1000 < N.length then 90 else 0
def RTakeB (B : Nat) (w : World) (L : List R) (e : Ending) (w' : World) : Prop := ∃ k, e = .returned (.int .i64 k) ∧ (L.any lngS = true → k = 10) ∧ (∀ N, NF N → (∀ z, Hf.mem z N ↔ Hf.mem z L) → k = tkC L N) ∧ Below B w w'
def RTake (w : World) (L : List R) (e : Ending) (w' : World) : Prop := RTakeB w.heap.size w L e w'
set_option maxRecDepth 100000 in
set_option maxHeartbeats 4000000 in
theorem rTake_any {w : World} {P : Nat → Prop} {A : Option Addr} {n c G cG : Nat} {ps : List Rg} (h : RefI w P A n c ps) (hP : ∀ b, P b → b < w.heap.size) (h0 : w.cell? ⟨G, 0, none⟩ = some (.slice A n c)) (hG : G < w.heap.size) :
    Calls Try.prog 11 #[.slice none 0 0, .slice (some ⟨G, 0, none⟩) 1 cG] w (RTake w (ps.map edsS)) := by
  obtain ⟨B, hB⟩ : ∃ B, w.heap.size = B := ⟨_, rfl⟩
  have HB := Lib.hid hB
  have HS := Lib.hid (fun (y : World) (hy : Below B w y) => h.keep (w' := y) (Q := fun b => b < B) (fun b hb => ⟨by have := hP b hb; omega, hy.block b (by have := hP b hb; omega)⟩))
  have HLg := Lib.hid (fun (y : World) (hy : Below B w y) => rLong_set (HS.out y hy).set (fun b hb => by have := hy.size; omega))
  have HNm := Lib.hid (fun (y : World) (hy : Below B w y) => rNormal_any (HS.out y hy) (fun b hb => by have := hy.size; omega))
  have HCl := Lib.hid (fun (y : World) (hy : Below B w y) => (World.cell?_of_block (a := ⟨G, 0, none⟩) (hy.block G (by omega))).trans h0)
  obtain ⟨L, hL⟩ : ∃ L, ps.map edsS = L := ⟨_, rfl⟩
  rw [hL] at HLg HNm ⊢
  have HI0 := Lib.hid (Below.refl B w)
  unfold RTake
  rw [hB]
  clear h hP h0 hG hB hL HS
  go_enter Try.func11, Try.ntmps11
  go_wp2_with fail
  go_loopw [5] (fun vi wr => ∃ i, i ≤ 1 ∧ vi = .int .i64 (i : Nat) ∧ Hid (Below B w wr ∧ (1 ≤ i → L.any lngS = false))) (fun vi _ => 1 - (intOf vi).toNat)
  case atStart => exact ⟨0, Nat.zero_le _, rfl, Lib.hid ⟨HI0.out, fun h => by omega⟩⟩
  case round =>
    obtain ⟨i, hi, rfl, HI⟩ := hrel
    clear HI0
    rcases (by omega : i = 0 ∨ i = 1) with rfl | h1
    · have x0 := HCl.out _ HI.out.1
      go_wp2_with fail
      (with_reducible refine (HLg.out _ HI.out.1).mono ?_)
      rintro e w1 ⟨he, hb1⟩
      subst he
      have HB1 := Lib.hid (HI.out.1.trans (hb1.mono (by have := HI.out.1.size; have := HB.out; omega)))
      clear x0 hb1
      obtain ⟨lv, hlv⟩ : ∃ v, L.any lngS = v := ⟨_, rfl⟩
      rw [hlv]
      have HLv := Lib.hid hlv
      clear hlv
      cases lv
      · go_wp2_with fail
        go_roundw
        case rel => exact ⟨1, by omega, by go_num, Lib.hid ⟨HB1.out, fun _ => HLv.out⟩⟩
        case measure => simp [intOf]
      · have key : RTakeB B w L (.returned (.int .i64 10)) w1 := ⟨10, rfl, fun _ => rfl, fun N _ _ => by unfold tkC; rw [if_pos HLv.out], HB1.out⟩
        go_wp2_with fail
        exact bodyPost_ret (v := .int .i64 10) (by simp [results, Try.results11, go_sem]) rfl key
    · have HLv := Lib.hid (HI.out.2 (by omega))
      have hki : ¬ (i : Int) < 1 := by omega
      clear h1
      have HB1 := Lib.hid HI.out.1
      clear HI
      generalize wr = w1 at *
      go_wp2_with fail
      go_loopw [6] (fun vi wr => vi = .int .i64 0 ∧ Hid (Below B w wr)) (fun vi _ => 0)
      case atStart => exact ⟨rfl, HB1⟩
      case round =>
        obtain ⟨rfl, HI⟩ := hrel
        clear HB1
        generalize wr = w2 at *
        go_wp2_with fail
        go_loopw [7] (fun vi wr => ∃ j, j ≤ 1 ∧ vi = .int .i64 (j : Nat) ∧ Hid (Below B w wr ∧ (1 ≤ j → ∀ N, NF N → (∀ z, Hf.mem z N ↔ Hf.mem z L) → ¬ 1000 < N.length))) (fun vi _ => 1 - (intOf vi).toNat)
        case atStart => exact ⟨0, Nat.zero_le _, rfl, Lib.hid ⟨HI.out, fun h => by omega⟩⟩
        case round =>
          obtain ⟨j, hj, rfl, HJ⟩ := hrel
          clear HI
          rcases (by omega : j = 0 ∨ j = 1) with rfl | h1
          · have x0 := HCl.out _ HJ.out.1
            go_wp2_with fail
            (with_reducible refine (HNm.out _ HJ.out.1).mono ?_)
            rintro e w3 ⟨A1, n1, c1, qs, he, hr, hnf, hm, hb3⟩
            subst he
            have HB3 := Lib.hid (HJ.out.1.trans (hb3.mono (by have := HJ.out.1.size; have := HB.out; omega)))
            have HU := Lib.hid (show ∀ N, NF N → (∀ z, Hf.mem z N ↔ Hf.mem z L) → N.length = n1 from fun N h1 h2 => by
              rw [← NF.uniq hnf h1 (fun z => (hm z).trans (h2 z).symm), List.length_map, hr.len])
            have hcp := hr.cap
            have hmx := hcp.2
            unfold maxLen at hmx
            clear x0 hr hnf hm hb3
            by_cases hk : 1000 < n1
            · have hki : (1000 : Int) < (n1 : Int) := by omega
              have key : RTakeB B w L (.returned (.int .i64 90)) w3 := ⟨90, rfl, fun h => (by rw [HLv.out] at h; cases h), fun N h1 h2 => by unfold tkC; rw [if_neg (by rw [HLv.out]; exact Bool.false_ne_true), if_pos (by rw [HU.out N h1 h2]; exact hk)], HB3.out⟩
              go_wp2_with fail
              exact bodyPost_ret (v := .int .i64 90) (by simp [results, Try.results11, go_sem]) rfl key
            · have hki : ¬ (1000 : Int) < (n1 : Int) := by omega
              have HKn := Lib.hid hk
              clear hk
              go_wp2_with fail
              go_roundw
              case rel => exact ⟨1, by omega, by go_num, Lib.hid ⟨HB3.out, fun _ N h1 h2 => by rw [HU.out N h1 h2]; exact HKn.out⟩⟩
              case measure => simp [intOf]
          · have HLe := Lib.hid (HJ.out.2 (by omega))
            have hkj : ¬ (j : Int) < 1 := by omega
            clear h1
            have key : RTakeB B w L (.returned (.int .i64 0)) wr := ⟨0, rfl, fun h => (by rw [HLv.out] at h; cases h), fun N h1 h2 => by unfold tkC; rw [if_neg (by rw [HLv.out]; exact Bool.false_ne_true), if_neg (HLe.out N h1 h2)], HJ.out.1⟩
            go_wp2_with fail
            exact bodyPost_ret (v := .int .i64 0) (by simp [results, Try.results11, go_sem]) rfl key
/-! ### the reference: Bound -/
theorem rInt_w {w : World} {x : Int} {A : Option Addr} {c : Nat} (hs : SlI w w.heap.size A (digs 2 x.natAbs).length c (digs 2 x.natAbs)) (hn : (digs 2 x.natAbs).length ≤ 33554432) :
    Calls Try.prog 76 #[.agg #[.bool (decide (x < 0)), .slice A (digs 2 x.natAbs).length c]] w (PostI w x) :=
  Int_raw _ hs (nrm_digs (by decide) _) (by omega) (Nat.le_refl _) (by rw [nv_digs (by decide)]) rfl
set_option maxRecDepth 100000 in
set_option maxHeartbeats 4000000 in
theorem rBound_any {w : World} {P : Nat → Prop} {e : Ed} {b : Bd} (h : Sb w P e b) (hP : ∀ x, P x → x < w.heap.size) (hl : lngE e = false) :
    Calls Try.prog 61 #[b.v] w (CleanPost w e) := by
  obtain ⟨A, c, rfl⟩ := h.is
  have HL := Lib.hid h.lim
  have HN := Lib.hid (NBox.new w (rb e A c))
  have HBa := Lib.hid (show Below w.heap.size w (w.alloc (.cells (rb e A c).vals.toArray 65)) from (Below.refl _ _).alloc (Nat.le_refl _) _)
  have HE := Lib.hid (EBox.new (w.alloc (.cells (rb e A c).vals.toArray 65)) ⟨0, false, none, 0, 0, []⟩)
  rw [World.size_alloc] at HE
  have HBb := Lib.hid (show Below (w.heap.size + 1) (w.alloc (.cells (rb e A c).vals.toArray 65)) ((w.alloc (.cells (rb e A c).vals.toArray 65)).alloc (.cells (Bd.vals ⟨0, false, none, 0, 0, []⟩).toArray 39)) from (Below.refl _ _).alloc (by simp) _)
  have HN2 := Lib.hid (HN.out.below (HBb.out.mono (by simp)))
  have HBt := Lib.hid (show Below w.heap.size w ((w.alloc (.cells (rb e A c).vals.toArray 65)).alloc (.cells (Bd.vals ⟨0, false, none, 0, 0, []⟩).toArray 39)) from HBa.out.trans (HBb.out.mono (by omega)))
  have HF := Lib.hid (fun (d : Bd) (w' : World) (h1 : Below w.heap.size w w') (h2 : d.At w' (Fr w.heap.size w')) (h3 : d.Nrm) (h4 : d.ed = e) => show CleanPost w e (.returned (.agg #[.int .i64 d.i, .bool d.g, .slice d.A d.n d.c])) w' from ⟨d, rfl, h2, h3, h4, h1⟩)
  have hP2 := Lib.hid hP
  clear h hP
  cases e with
  | lo =>
    simp only [rb, Bd.v, Bd.vals] at HN2 HE HBa HBb HBt ⊢
    obtain ⟨x0, x1, x2⟩ := HN2.out.cells
    simp only at x0 x1 x2
    have HEx := Lib.hid (EBox.new (w.alloc (.cells #[.int .i64 (-1), .bool false, .slice none 0 0] 65)) ⟨(-1), false, none, 0, 0, []⟩)
    have HBx := Lib.hid (show Below w.heap.size w ((w.alloc (.cells #[.int .i64 (-1), .bool false, .slice none 0 0] 65)).alloc (.cells #[.int .i64 (-1), .bool false, .slice none 0 0] 39)) from HBa.out.alloc (by simp) _)
    have HGo := Lib.hid (HF.out (ib (-1)) _ HBx.out (ib_at _ _ (by omega)) (ib_nrm (by omega)) (by simp [Bd.ed, ib]))
    rw [World.size_alloc] at HEx
    simp only [Bd.vals] at HEx
    simp only [ib] at HGo
    obtain ⟨y0, y1, y2⟩ := HE.out.cells
    obtain ⟨f0, f1, f2⟩ := HE.out.frozens
    obtain ⟨s0, s1, s2⟩ := HEx.out.cells
    simp only at s0 s1 s2 y0 y1 y2
    clear HE HN HN2 HEx
    go_enter Try.func61, Try.ntmps61
    go_wp2_with fail
    exact bodyPost_ret (v := .agg #[.int .i64 (-1), .bool false, .slice none 0 0]) (by simp [results, Try.results61, go_sem, s0, s1, s2]) rfl HGo.out
  | hi =>
    simp only [rb, Bd.v, Bd.vals] at HN2 HE HBa HBb HBt ⊢
    obtain ⟨x0, x1, x2⟩ := HN2.out.cells
    simp only at x0 x1 x2
    have HEx := Lib.hid (EBox.new (w.alloc (.cells #[.int .i64 1, .bool false, .slice none 0 0] 65)) ⟨1, false, none, 0, 0, []⟩)
    have HBx := Lib.hid (show Below w.heap.size w ((w.alloc (.cells #[.int .i64 1, .bool false, .slice none 0 0] 65)).alloc (.cells #[.int .i64 1, .bool false, .slice none 0 0] 39)) from HBa.out.alloc (by simp) _)
    have HGo := Lib.hid (HF.out (ib 1) _ HBx.out (ib_at _ _ (by omega)) (ib_nrm (by omega)) (by simp [Bd.ed, ib]))
    rw [World.size_alloc] at HEx
    simp only [Bd.vals] at HEx
    simp only [ib] at HGo
    obtain ⟨y0, y1, y2⟩ := HE.out.cells
    obtain ⟨f0, f1, f2⟩ := HE.out.frozens
    obtain ⟨s0, s1, s2⟩ := HEx.out.cells
    simp only at s0 s1 s2 y0 y1 y2
    clear HE HN HN2 HEx
    go_enter Try.func61, Try.ntmps61
    go_wp2_with fail
    exact bodyPost_ret (v := .agg #[.int .i64 1, .bool false, .slice none 0 0]) (by simp [results, Try.results61, go_sem, s0, s1, s2]) rfl HGo.out
  | num z =>
    simp only [rb, Bd.v, Bd.vals] at HN2 HE HBa HBb HBt HL ⊢
    have hln : (digs 2 z.natAbs).length ≤ 33554432 := by
      unfold lngE at hl
      have := of_decide_eq_false hl
      omega
    have HZ2 := Lib.hid (show ((w.alloc (.cells #[.int .i64 0, .bool (decide (z < 0)), .slice A (digs 2 z.natAbs).length c] 65)).alloc (.cells #[.int .i64 0, .bool false, .slice none 0 0] 39)).heap.size = w.heap.size + 2 by simp)
    have HI := Lib.hid (fun (y : World) (hy : Below w.heap.size w y) => rInt_w (w := y) (((HL.out.sl (B := w.heap.size) hP2.out).below hy (Nat.le_refl _)).mono hy.size) hln)
    generalize hw2 : ((w.alloc (.cells #[.int .i64 0, .bool (decide (z < 0)), .slice A (digs 2 z.natAbs).length c] 65)).alloc (.cells #[.int .i64 0, .bool false, .slice none 0 0] 39)) = w2 at *
    obtain ⟨x0, x1, x2⟩ := HN2.out.cells
    simp only at x0 x1 x2
    clear hl hln HN HBa HBb
    subst hw2
    go_enter Try.func61, Try.ntmps61
    go_wp2_with fail
    (with_reducible refine (HI.out _ HBt.out).mono ?_)
    rintro e w3 ⟨v, he, hr, hb⟩
    obtain ⟨A2, c2, hv, hat⟩ := hr.nb
    subst hv
    subst he
    have HB3 := Lib.hid (HBt.out.trans (hb.mono HBt.out.size))
    have HE3 := Lib.hid (HE.out.below hb)
    have HAt := Lib.hid hat
    have HS3 := Lib.hid hb.size
    clear x0 x1 x2 hb hr hat HBt HE HN2 HI
    generalize ((w.alloc (.cells #[.int .i64 0, .bool (decide (z < 0)), .slice A (digs 2 z.natAbs).length c] 65)).alloc (.cells #[.int .i64 0, .bool false, .slice none 0 0] 39)) = w2 at *
    obtain ⟨y0, y1, y2⟩ := HE3.out.cells
    obtain ⟨f0, f1, f2⟩ := HE3.out.frozens
    simp only at y0 y1 y2
    have hlt := HE3.out.lt
    have HSet := Lib.hid (HE3.out.set3 (nb z A2 c2))
    simp only [nb] at HSet
    go_wp2_with fail
    have hs3 := HS3.out
    have hz2 := HZ2.out
    have HGo := Lib.hid (HF.out (nb z A2 c2) _ (HB3.out.grown HSet.out.2 (by omega) (fun j e => by injection e with e; omega)) (HAt.out.keep (fun b hb => ⟨⟨by have := hb.1; omega, by have := hb.2; have := HSet.out.2.size; omega⟩, HSet.out.2.block b hb.2 (fun e => by injection e with e; have := hb.1; omega)⟩)) (nb_nrm _ _ _) (nb_ed _ _ _))
    simp only [nb] at HGo
    obtain ⟨s0, s1, s2⟩ := HSet.out.1.cells
    simp only at s0 s1 s2
    exact bodyPost_ret (v := .agg #[.int .i64 0, .bool (decide (z < 0)), .slice A2 (digs W z.natAbs).length c2]) (by simp [results, Try.results61, go_sem, s0, s1, s2]) rfl HGo.out
end Go.Proofs.Ytpikjceodmepiaa


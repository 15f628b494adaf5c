import Derived.Test.YtpikjceodmepiaaAnm
set_option linter.unusedVariables false
set_option linter.unusedSimpArgs false
namespace Go.Proofs.Ytpikjceodmepiaa
open Go.RowKit Hb Hf
set_option linter.unusedVariables false
set_option linter.unusedSimpArgs false
attribute [local go_sem ↓] Go.wp_at_zero Go.wp_at_succ
/-! ### the law's bound: an end in memory of its own, the owner's mark behind it -/
theorem LimP.take {w : World} {P : Nat → Prop} {A : Option Addr} {n c k : Nat} {l : List Nat} (h : LimP w P A n c l) (hk : k ≤ n) : LimP w P A k c (l.take k) :=
  ⟨by rw [List.length_take, h.len]; omega, Nat.le_trans hk h.cap, h.max, h.dig.take k, fun hl => by
    obtain ⟨b, o, e, hp, hc⟩ := h.rd (fun e => by rw [e] at hl; simp at hl)
    refine ⟨b, o, e, hp, fun i v hv => hc i v ?_⟩
    have e2 : u32s (l.take k) = (u32s l).take k := by unfold u32s; rw [List.map_take]
    rw [e2, List.getElem?_take] at hv
    split at hv
    · exact hv
    · cases hv⟩
theorem mark_at (w : World) : SlU (w.alloc (.cells #[.int .u32 77] 73)) (w.heap.size + 1) (some ⟨w.heap.size, 0, none⟩) 1 1 [77] := by
  have h := Own.of_block (t := 73) (xs := u32s [77]) (g := w.heap.size) (B := w.heap.size) (w := w.alloc (.cells #[.int .u32 77] 73)) (heap_alloc_new w (.cells #[.int .u32 77] 73)) (Nat.le_refl _) (by simp [maxLen, u32s])
  have h2 := Own.sl (l := [77]) h (fun x hx => by rw [List.mem_singleton.1 hx]; show (77 : Nat) < 4294967296; omega) rfl
  rw [World.size_alloc] at h2
  exact h2
def BoundPost (w : World) (b : Bd) (e : Ending) (w' : World) : Prop := ∃ A c, e = .returned (Bd.v ⟨b.i, b.g, A, b.n, c, b.l⟩) ∧ OwnU w' w.heap.size A (b.n + 1) c (u32s (b.l ++ [77])) ∧ Below w.heap.size w w'
set_option maxRecDepth 100000 in
set_option maxHeartbeats 8000000 in
theorem bound_any {b : Bd} {P : Nat → Prop} {w : World} (hb : b.At w P) (hP : ∀ x, P x → x < w.heap.size) (hz : b.A = none → b.c = 0) (hn : b.n ≤ 33554432) :
    Calls Try.prog 31 #[b.v] w (BoundPost w b) := by
  have HG := Lib.hid (((Below.refl w.heap.size w).alloc (Nat.le_refl _) (.cells b.vals.toArray 39)).alloc (by simp) (.cells (ib 0).vals.toArray 39))
  have e1 := EBox.new w b
  have e2 := EBox.new (w.alloc (.cells b.vals.toArray 39)) (ib 0)
  have e3 := (EBox.below e1 (w' := (w.alloc (.cells b.vals.toArray 39)).alloc (.cells (ib 0).vals.toArray 39)) ((Below.refl _ _).alloc (Nat.le_refl _) _))
  rw [World.size_alloc] at e2
  have hcap := hb.lim.cap
  have hmx := hb.lim.max
  unfold maxLen at hmx
  have HT := Lib.hid (fun (w1 : World) (h1 : Below w.heap.size w w1) => (hb.lim.sl hP).below (C := w.heap.size) h1 (Nat.le_refl _))
  have HZ := Lib.hid hz
  have HR := Lib.hid (And.intro hb.r1 hb.r2)
  have HD := Lib.hid hb.lim.dig
  have HF := Lib.hid (fun e w' (h : BoundPost w b e w') => h)
  obtain ⟨bi, bg, bA, bn, bc, bl⟩ := b
  simp only at hcap hmx HT HZ HR HD hn
  have HE := Lib.hid (And.intro e3 e2)
  simp only [Bd.v, Bd.vals, ib, BoundPost] at *
  obtain ⟨x0, x1, x2⟩ := HE.out.1.cells
  obtain ⟨f0, f1, f2⟩ := HE.out.1.frozens
  clear hb hP hz e1 e2 e3 HF
  have hW : (((w.alloc (.cells #[.int .i64 bi, .bool bg, .slice bA bn bc] 39)).alloc (.cells #[.int .i64 0, .bool false, .slice none 0 0] 39)).alloc (.cells #[] 73)).heap.size = w.heap.size + 1 + 1 + 1 := by simp
  have ho0 : OwnU (((w.alloc (.cells #[.int .i64 bi, .bool bg, .slice bA bn bc] 39)).alloc (.cells #[.int .i64 0, .bool false, .slice none 0 0] 39)).alloc (.cells #[] 73)) (w.heap.size + 1 + 1) (some ⟨w.heap.size + 1 + 1, 0, none⟩) 0 0 (u32s []) := by
    have := Own.of_block (t := 73) (xs := []) (g := w.heap.size + 1 + 1) (B := w.heap.size + 1 + 1) (w := (((w.alloc (.cells #[.int .i64 bi, .bool bg, .slice bA bn bc] 39)).alloc (.cells #[.int .i64 0, .bool false, .slice none 0 0] 39)).alloc (.cells #[] 73))) (by
      have := heap_alloc_new ((w.alloc (.cells #[.int .i64 bi, .bool bg, .slice bA bn bc] 39)).alloc (.cells #[.int .i64 0, .bool false, .slice none 0 0] 39)) (.cells #[] 73)
      simpa using this) (Nat.le_refl _) (by simp [maxLen])
    exact this
  have HO0 := Lib.hid (And.intro ho0 (HT.out _ (HG.out.alloc (by simp; omega) (.cells #[] 73))))
  have HBa := Lib.hid (show Below (w.heap.size + 1 + 1) ((w.alloc (.cells #[.int .i64 bi, .bool bg, .slice bA bn bc] 39)).alloc (.cells #[.int .i64 0, .bool false, .slice none 0 0] 39)) (((w.alloc (.cells #[.int .i64 bi, .bool bg, .slice bA bn bc] 39)).alloc (.cells #[.int .i64 0, .bool false, .slice none 0 0] 39)).alloc (.cells #[] 73)) from (Below.refl _ _).alloc (by simp) _)
  clear ho0
  go_enter Try.func31, Try.ntmps31
  go_upto_region 2 with (first | (at_builtin; refine wpList_plain rfl fun K hK => ?_; refine wp_append_rd (base := w.heap.size + 1 + 1) (l0 := bl) (l := [77]) (A0 := A') (n0 := bn) (c0 := c') _ _ rfl (by rfl) HO5.out (by rfl) (fun h => (by cases h)) HS7.out (by omega) (by simp; omega) ?_; intro A2 c2 w6 ho6 hb6; refine hK _ _ ?_; have HB6 := Lib.hid (show Below (w.heap.size + 1 + 1) w4 w6 from ((Below.refl _ w4).alloc (by omega) _).trans hb6); have HO6 := Lib.hid ho6; clear ho6 hb6; have HX6 := Lib.hid (show EBox w6 w.heap.size ⟨bi, bg, bA, bn, bc, bl⟩ from (HB6.out.block _ (by omega)).trans HX4.out); have HY6 := Lib.hid (show EBox w6 (w.heap.size + 1) ⟨0, false, none, 0, 0, []⟩ from (HB6.out.block _ (by omega)).trans HY4.out); clear x0 x1 x2 f0 f1 f2 y0 y1 y2 k0 k1 k2; obtain ⟨x0, x1, x2⟩ := HX6.out.cells; obtain ⟨f0, f1, f2⟩ := HX6.out.frozens; obtain ⟨y0, y1, y2⟩ := HY6.out.cells; obtain ⟨k0, k1, k2⟩ := HY6.out.frozens; simp only at y0 y1 y2) | (at_builtin; refine wpList_plain rfl fun K hK => ?_; refine wp_append_rd (base := w.heap.size + 1 + 1) (l0 := []) (l := bl) (A0 := some ⟨w.heap.size + 1 + 1, 0, none⟩) (n0 := 0) (c0 := 0) _ _ rfl (by rfl) HO0.out.1 (by rfl) HZ.out HO0.out.2 (by omega) (by rw [hW]; omega) ?_; intro A' c' w4 ho4 hb4; rw [Nat.zero_add] at ho4 ⊢; refine hK _ _ ?_; have HB4 := Lib.hid (HBa.out.trans hb4); have HO4 := Lib.hid (show OwnU w4 (w.heap.size + 1 + 1) A' bn c' (u32s bl) from ho4); clear ho4 hb4; have HX4 := Lib.hid (show EBox w4 w.heap.size ⟨bi, bg, bA, bn, bc, bl⟩ from (HB4.out.block _ (by omega)).trans HE.out.1); have HY4 := Lib.hid (show EBox w4 (w.heap.size + 1) ⟨0, false, none, 0, 0, []⟩ from (HB4.out.block _ (by omega)).trans HE.out.2); have HS7 := Lib.hid (mark_at w4); have HO5 := Lib.hid (HO4.out.alloc (.cells #[.int .u32 77] 73)); have hz4 : w.heap.size + 1 + 1 ≤ w4.heap.size := (by have := HB4.out.size; simp at this; omega); clear x0 x1 x2 f0 f1 f2; obtain ⟨x0, x1, x2⟩ := HX4.out.cells; obtain ⟨f0, f1, f2⟩ := HX4.out.frozens; obtain ⟨y0, y1, y2⟩ := HY4.out.cells; obtain ⟨k0, k1, k2⟩ := HY4.out.frozens))
  obtain ⟨g6, rfl, hg61, hg62⟩ := HO6.out.at_ (by omega)
  have hcap6 := HO6.out.cap.1
  have hmax6 := HO6.out.cap.2
  unfold maxLen at hmax6
  have hbnc : bn ≤ c2 := by omega
  have hz6 := HB6.out.size
  clear x0 x1 x2 f0 f1 f2 y0 y1 y2 k0 k1 k2
  refine wp_region_U 13 (by kernel_rfl) (fun z0 K0 hs0 => ?_)
  refine tkW 0 (v := ?tv0_1) K0 rfl (by kernel_rfl) ?tq0_1 (by kernel_rfl) (fun z5 hS => ?ty0_1) ?_
  case ty0_1 => go_simp; rfl
  case tq0_1 => exact fun _ _ _ h => h
  refine tkW 1 (v := ?tv1_2) K0 rfl (by kernel_rfl) ?tq1_2 (by kernel_rfl) (fun z5 hS => ?ty1_2) ?_
  case ty1_2 => obtain ⟨x0, x1, x2⟩ := (HX6.out.below hS).cells; go_simp; rfl
  case tq1_2 => exact fun _ _ _ h => h
  refine tkW 2 (v := ?tv2_3) K0 rfl (by kernel_rfl) ?tq2_3 (by kernel_rfl) (fun z5 hS => ?ty2_3) ?_
  case ty2_3 => go_simp; rfl
  case tq2_3 => exact fun _ _ _ h => h
  refine tkW 3 (v := ?tv3_4) K0 rfl (by kernel_rfl) ?tq3_4 (by kernel_rfl) (fun z5 hS => ?ty3_4) ?_
  case ty3_4 => go_simp; rfl
  case tq3_4 => exact fun _ _ _ h => h
  refine tkW 4 (v := ?tv4_5) K0 rfl (by kernel_rfl) ?tq4_5 (by kernel_rfl) (fun z5 hS => ?ty4_5) ?_
  case ty4_5 => obtain ⟨x0, x1, x2⟩ := (HX6.out.below hS).cells; go_simp; rfl
  case tq4_5 => exact fun _ _ _ h => h
  refine tkW 5 (v := ?tv5_6) K0 rfl (by kernel_rfl) ?tq5_6 (by kernel_rfl) (fun z5 hS => ?ty5_6) ?_
  case ty5_6 => go_simp; rfl
  case tq5_6 => exact fun _ _ _ h => h
  refine tkW 6 (v := ?tv6_7) K0 rfl (by kernel_rfl) ?tq6_7 (by kernel_rfl) (fun z5 hS => ?ty6_7) ?_
  case ty6_7 => go_simp; rfl
  case tq6_7 => exact fun _ _ _ h => h
  refine tkW 7 (v := ?tv7_8) K0 rfl (by kernel_rfl) ?tq7_8 (by kernel_rfl) (fun z5 hS => ?ty7_8) ?_
  case ty7_8 => go_simp; rfl
  case tq7_8 => exact fun _ _ _ h => h
  refine tkW 8 (v := ?tv8_9) K0 rfl (by kernel_rfl) ?tq8_9 (by kernel_rfl) (fun z5 hS => ?ty8_9) ?_
  case ty8_9 => obtain ⟨x0, x1, x2⟩ := (HX6.out.below hS).cells; go_simp; rfl
  case tq8_9 => exact fun _ _ _ h => h
  refine tkW 9 (v := ?tv9_10) K0 rfl (by kernel_rfl) ?tq9_10 (by kernel_rfl) (fun z5 hS => ?ty9_10) ?_
  case ty9_10 => go_simp; rfl
  case tq9_10 => exact fun _ _ _ h => h
  refine tkW 10 (v := ?tv10_11) K0 rfl (by kernel_rfl) ?tq10_11 (by kernel_rfl) (fun z5 hS => ?ty10_11) ?_
  case ty10_11 => go_simp; rfl
  case tq10_11 => exact fun _ _ _ h => h
  refine tkW 11 (v := ?tv11_12) K0 rfl (by kernel_rfl) ?tq11_12 (by kernel_rfl) (fun z5 hS => ?ty11_12) ?_
  case ty11_12 => go_simp; rfl
  case tq11_12 => exact fun _ _ _ h => h
  refine tkW 12 (v := ?tv12_13) K0 rfl (by kernel_rfl) ?tq12_13 (by kernel_rfl) (fun z5 hS => ?ty12_13) ?_
  case ty12_13 => go_simp; rfl
  case tq12_13 => exact fun _ _ _ h => h
  have HY7 := Lib.hid (HY6.out.below K0)
  obtain ⟨y0, y1, y2⟩ := HY7.out.cells
  obtain ⟨k0, k1, k2⟩ := HY7.out.frozens
  simp only at y0 y1 y2
  refine wpAnyW_one (i := 13) (by kernel_rfl) rfl (fun K hK => ?_)
  go_simp
  refine hK.out _ _ (fun h => absurd h (by simp)) ?_
  refine wpAnyW_done (by kernel_rfl) ?_ _
  have HS2 := Lib.hid (HY7.out.set3 (⟨bi, bg, some ⟨g6, 0, none⟩, bn, c2, bl⟩ : Bd))
  have hz7 := K0.size
  have HO7 := Lib.hid (HO6.out.below K0 (Nat.le_refl _))
  have hw6 : w.heap.size + 1 + 1 ≤ w6.heap.size := by omega
  have HGo := Lib.hid (show BoundPost w ⟨bi, bg, bA, bn, bc, bl⟩ (.returned (.agg #[.int .i64 bi, .bool bg, .slice (some ⟨g6, 0, none⟩) bn c2])) (((z0.setCell ⟨w.heap.size + 1, 0, none⟩ (.int .i64 bi)).setCell ⟨w.heap.size + 1, 1, none⟩ (.bool bg)).setCell ⟨w.heap.size + 1, 2, none⟩ (.slice (some ⟨g6, 0, none⟩) bn c2)) from
    ⟨some ⟨g6, 0, none⟩, c2, rfl, by
      have hne : ∀ g, (some ⟨g6, 0, none⟩ : Option Addr) = some ⟨g, 0, none⟩ → g ≠ w.heap.size + 1 := fun g hg => by injection hg with hg; injection hg with hg; omega
      exact (((Own.mono HO7.out (B' := w.heap.size) (by omega)).far hne _).far hne _).far hne _,
      (HG.out.trans ((HB4.out.trans (HB6.out.trans (K0.mono hw6))).mono (by omega))).grown HS2.out.2 (by omega) (fun j e => by injection e with e; omega)⟩)
  obtain ⟨s0, s1, s2⟩ := HS2.out.1.cells
  simp only at s0 s1 s2
  clear y0 y1 y2 k0 k1 k2 K0 hs0
  go_wp2_with fail
  exact bodyPost_ret (v := .agg #[.int .i64 bi, .bool bg, .slice (some ⟨g6, 0, none⟩) bn c2]) (by simp [results, Try.results31, go_sem, s0, s1, s2]) rfl HGo.out
end Go.Proofs.Ytpikjceodmepiaa


import Derived.Test.YtfdcponamkfcaaaDoorMb
import Derived.Test.YtfdcponamkfcaaaDoorNu
namespace Go.Proofs.YtfdcponamkfcaaaDoor
open Go.RowKit Ho Go.Maps Go.Shelf Go.Sort Hb
set_option linter.unusedVariables false
set_option linter.unusedSimpArgs false
attribute [local go_sem] Oper.semAt_some
/-! ### the law's listed, pick -/
structure LisI (w : World) (g b1 b2 b3 gA B3 B4 N kA cA : Nat) (was L : List OpV) (pre : List OpV) (W : World) : Prop where
  tab : TabAt W g b1 b2 b3 N L
  br : Boxed W w.heap.size 4 (.bool false)
  bw : Boxed W B3 30 (.slice (some ⟨gA, 0, none⟩) kA cA)
  bk : Boxed W B4 3 (.int .i64 (pre.length : Int))
  row : RowO W gA was
  pre_ : pre = was.take pre.length
  bel : Below w.heap.size w W
theorem LisI.kept {w : World} {g b1 b2 b3 gA B3 B4 N kA cA B : Nat} {was L pre : List OpV} {W W' : World} {row : Option Nat} (h : LisI w g b1 b2 b3 gA B3 B4 N kA cA was L pre W) (hB : b1 < B ∧ b2 < B ∧ b3 < B ∧ w.heap.size ≤ B)
    (hg : W.grownBy W' row) (hr : ∀ r, row = some r → B ≤ r ∧ ∃ o : Obj, W.heap[r]? = some o ∧ o.isCells = false) : LisI w g b1 b2 b3 gA B3 B4 N kA cA was L pre W' := by
  have hr2 : ∀ r, row = some r → ∃ o : Obj, W.heap[r]? = some o ∧ o.isCells = false := fun r e => (hr r e).2
  exact ⟨h.tab.kept (B := B) ⟨by omega, by omega, by omega⟩ hg hr, h.br.kept hg (cells_ne h.br hr2), h.bw.kept hg (cells_ne h.bw hr2), h.bk.kept hg (cells_ne h.bk hr2), h.row.kept hg hr2, h.pre_,
    h.bel.grown hg h.bel.size (fun k e => Nat.le_trans hB.2.2.2 (hr k e).1)⟩
theorem LisI.drew {w : World} {g b1 b2 b3 gA B3 B4 N kA cA : Nat} {was L pre : List OpV} {W : World} (h : LisI w g b1 b2 b3 gA B3 B4 N kA cA was L pre W) (hB : b1 < W.heap.size ∧ b2 < W.heap.size ∧ b3 < W.heap.size ∧ w.heap.size ≤ W.heap.size) : LisI w g b1 b2 b3 gA B3 B4 N kA cA was L pre W.drew :=
  h.kept (B := W.heap.size) hB ⟨rfl, rfl, rfl, Nat.le_refl _, fun _ _ _ => rfl⟩ (row := none) (fun r e => by cases e)
theorem LisI.step {w : World} {g b1 b2 b3 gA B3 B4 N kA cA : Nat} {was L pre : List OpV} {W : World} {x : OpV} (h : LisI w g b1 b2 b3 gA B3 B4 N kA cA was L pre W) (hx : was[pre.length]? = some x)
    (hz : g < B4 ∧ b1 < B4 ∧ b2 < B4 ∧ b3 < B4 ∧ w.heap.size < B4 ∧ B3 < B4 ∧ gA < B4) {v : Int} (hv : v = (pre.length : Int) + 1) : LisI w g b1 b2 b3 gA B3 B4 N kA cA was L (pre ++ [x]) (W.setCell ⟨B4, 0, none⟩ (.int .i64 v)) := by
  have hg := grownBy_setCell' W B4 (.int .i64 v)
  refine ⟨h.tab.grown hg ⟨by omega, by omega, by omega, by omega⟩, Boxed.grown h.br hg (by omega), Boxed.grown h.bw hg (by omega), ?_, h.row.grown hg (by omega), ?_, h.bel.grown hg h.bel.size (fun k e => by cases e; omega)⟩
  · have h9 := h.bk.set (.int .i64 v)
    rw [hv] at h9 ⊢
    have e : ((pre ++ [x]).length : Int) = (pre.length : Int) + 1 := by simp
    rw [e]; exact h9
  · obtain ⟨hi, e⟩ := List.getElem?_eq_some_iff.1 hx
    rw [List.length_append, List.length_singleton, List.take_succ_eq_append_getElem hi, e, ← h.pre_]
set_option maxRecDepth 100000 in
set_option maxHeartbeats 8000000 in
theorem listed_any {w : World} {g h N : Nat} {b1 b2 b3 : Nat} {L : List OpV} (hT : TabAt w g b1 b2 b3 N L) (hR : RTab w h L) (hI : Inv L) (hn : 0 < L.length) (hL : L.length ≤ 4398046511101) :
    Calls Tryd.prog 28 #[.pointer (some ⟨g, 0, none⟩), .pointer (some ⟨h, 0, none⟩)] w fun e w' => e = .returned (.bool true) ∧ Below w.heap.size w w' := by
  have hb0 : Below w.heap.size w (w.alloc (.cells #[.bool false] 4)) := (Below.refl _ _).alloc (Nat.le_refl _) _
  have hblt : g < w.heap.size ∧ b1 < w.heap.size ∧ b2 < w.heap.size ∧ b3 < w.heap.size := by
    obtain ⟨h0, m1, m2, m3, hd⟩ := hT
    exact ⟨(Array.getElem?_eq_some_iff.1 h0).1, m1.lt, m2.lt, m3.lt⟩
  have HB0 := Lib.hid hb0
  have HX0 := Lib.hid (Boxed.new w 4 (.bool false))
  have HT := Lib.hid (fun w1 (hb : Below w.heap.size w w1) => hT.below' hb)
  have HS := Lib.hid (rsorted_any (hR.below hb0) hn hL hI.uq)
  have HI := Lib.hid hI
  have HLn := Lib.hid (And.intro hn hL)
  have HBL := Lib.hid hblt
  clear hT hR hI hb0 hblt
  refine (callsIn_wide (n := 4)).1 ?_
  refine callsIn_of_wp_marks Tryd.func28 rfl trivial ?_ rfl
  simp only [Tryd.ntmps28, List.size_toArray, List.length_cons, List.length_nil, Nat.reduceAdd, Nat.reduceSub, Array.replicate_succ, Array.replicate_zero, List.push_toArray, List.append_toArray, List.nil_append, List.cons_append]
  gi_wp2_with fail
  refine ⟨trivial, ?_⟩
  (with_reducible refine (callsIn_wide.2 HS.out).mono ?_)
  rintro ex w5 ⟨gA, cA, rfl, hrow5, hb5⟩
  have h5 := row_of_owns hrow5
  have HR5 := Lib.hid h5.1
  have HZ5 := Lib.hid (And.intro h5.2.1 h5.2.2.1)
  have hcap5 := owns_cap hrow5
  have hb67 : Below w5.heap.size w5 ((w5.alloc (.cells #[.slice (some ⟨gA, 0, none⟩) L.length cA] 30)).alloc (.cells #[.int .i64 0] 3)) := ((Below.refl _ _).alloc (Nat.le_refl _) _).alloc (by simp) _
  have hx5 : Boxed w5 w.heap.size _ _ := (hb5.block _ HX0.out.lt).trans HX0.out
  have hB5 := HB0.out.trans (hb5.mono HB0.out.size)
  have ht5 := HT.out _ hB5
  have HW5 := Lib.hid (And.intro hx5 (And.intro ht5 hB5))
  clear h5 hrow5 hb5 hx5 ht5 hB5
  gi_wp2_with fail
  refine ⟨trivial, ?_⟩
  (with_reducible refine (callsIn_wide.2 (all_in _ _)).mono ?_)
  rintro ex w8 ⟨rfl, rfl⟩
  gi_wp2_with fail
  obtain ⟨was, hwas⟩ : ∃ l, srt L = l := ⟨_, rfl⟩
  have hwl : was.length = L.length := by rw [← hwas]; exact (srt_perm L).length_eq
  obtain ⟨B3, hB3⟩ : ∃ B3, w5.heap.size = B3 := ⟨_, rfl⟩
  obtain ⟨W0, hW0⟩ : ∃ W0, ((w5.alloc (.cells #[.slice (some ⟨gA, 0, none⟩) L.length cA] 30)).alloc (.cells #[.int .i64 0] 3)).alloc (.cells #[.pointer (some ⟨g, 0, none⟩)] 31) = W0 := ⟨_, rfl⟩
  have hs0 : W0.heap.size = B3 + 3 := by rw [← hW0, ← hB3]; simp
  have hb0 : Below w5.heap.size w5 W0 := by rw [← hW0]; exact hb67.alloc hb67.size _
  have hbw : Boxed W0 B3 30 (.slice (some ⟨gA, 0, none⟩) L.length cA) := by rw [← hW0, ← hB3]; exact ((Boxed.new w5 _ _).alloc _).alloc _
  have hbk : Boxed W0 (B3 + 1) 3 (.int .i64 0) := by
    rw [← hW0, ← hB3]
    have h9 := Boxed.new (w5.alloc (.cells #[.slice (some ⟨gA, 0, none⟩) L.length cA] 30)) 3 (.int .i64 0)
    rw [World.size_alloc] at h9
    exact h9.alloc _
  have hbp : Boxed W0 (B3 + 1 + 1) 31 (.pointer (some ⟨g, 0, none⟩)) := by
    rw [← hW0, ← hB3]
    have h9 := Boxed.new ((w5.alloc (.cells #[.slice (some ⟨gA, 0, none⟩) L.length cA] 30)).alloc (.cells #[.int .i64 0] 3)) 31 (.pointer (some ⟨g, 0, none⟩))
    rw [World.size_alloc, World.size_alloc] at h9
    exact h9
  have hI0 : LisI w g b1 b2 b3 gA B3 (B3 + 1) N L.length cA was L [] W0 := by
    obtain ⟨hx5, ht5, hB5⟩ := HW5.out
    exact ⟨ht5.below' hb0, (hb0.block _ hx5.lt).trans hx5, hbw, hbk, by rw [← hwas]; exact HR5.out.same (hb0.block _ HZ5.out.2), rfl, hB5.trans (hb0.mono hB5.size)⟩
  have hzz : g < w.heap.size ∧ b1 < w.heap.size ∧ b2 < w.heap.size ∧ b3 < w.heap.size ∧ w.heap.size < B3 ∧ gA < B3 := by
    have := HBL.out; have := HZ5.out; have := HW5.out.1.lt
    exact ⟨by omega, by omega, by omega, by omega, by omega, by omega⟩
  rw [hB3, hW0]
  have ht0 : TabAt W0 g b1 b2 b3 N L := HW5.out.2.1.below' hb0
  clear hb67 hb0 hbw hbk hW0
  have HI0 := Lib.hid hI0
  have HZ := Lib.hid (And.intro hzz hs0)
  refine wpIn_rangeFunc_ownH rfl (by omega) (gf := 37) (lb := #[.pointer (some ⟨B3 + 1 + 1, 0, none⟩)]) rfl trivial (enters_of Tryd.func37 (by kernel_rfl) rfl)
    (all_stops sort_ok 3 (by omega) (B3 + 1 + 1) g b1 b2 b3 N none L (good_of HI.out) (by have := HLn.out; omega) W0 hbp.cell ht0 (fun B e => by cases e) (fun b e => by cases e)) KpO.t (KpO.b (fun B e => by cases e)) (Below.refl _ _) (fun _ => rfl)
    (fun pre W => LisI w g b1 b2 b3 gA B3 (B3 + 1) N L.length cA was L pre W)
    (fun _ pre _ => ¬ pre <+: was)
    (fun pre W W' row hs hg hr => hs.kept (B := W0.heap.size) ⟨by omega, by omega, by omega, by omega⟩ hg hr)
    (fun _ _ _ _ _ hs _ _ => hs)
    hI0
    (fun x a' W => ∃ Bx, BoxO W Bx x ∧ a' = { tmps := #[.pointer (some ⟨g, 0, none⟩), .pointer (some ⟨h, 0, none⟩), undef, undef, .pointer (some ⟨w.heap.size, 0, none⟩), .pointer (some ⟨B3, 0, none⟩), .pointer (some ⟨B3 + 1, 0, none⟩), .pointer (some ⟨Bx, 0, none⟩), .pointer (some ⟨h, 0, none⟩), .slice (some ⟨gA, 0, none⟩) L.length cA, .pointer (some ⟨g, 0, none⟩), .func (.func 37) #[] #[.pointer (some ⟨B3 + 1 + 1, 0, none⟩)], opV x, undef, undef, undef, undef, undef, undef, undef, undef, undef, undef, undef, undef, undef, undef, undef, undef, undef, undef], defers := [] })
    (fun x a' _ W W' row hs hg hr => by obtain ⟨Bx, hb, rfl⟩ := hs; exact ⟨Bx, hb.kept hg (fun r e => (hr r e).2), rfl⟩) ?assign ?body ?done ?stop
  case assign =>
    rintro l pre x W K hI hK
    have hKK := hK { tmps := #[.pointer (some ⟨g, 0, none⟩), .pointer (some ⟨h, 0, none⟩), undef, undef, .pointer (some ⟨w.heap.size, 0, none⟩), .pointer (some ⟨B3, 0, none⟩), .pointer (some ⟨B3 + 1, 0, none⟩), .pointer (some ⟨W.heap.size, 0, none⟩), .pointer (some ⟨h, 0, none⟩), .slice (some ⟨gA, 0, none⟩) L.length cA, .pointer (some ⟨g, 0, none⟩), .func (.func 37) #[] #[.pointer (some ⟨B3 + 1 + 1, 0, none⟩)], opV x, undef, undef, undef, undef, undef, undef, undef, undef, undef, undef, undef, undef, undef, undef, undef, undef, undef, undef], defers := [] } (W.alloc (.cells (encO x).toArray 23))
      ((KeepsOthers.alloc _ _).from _) (KpO.alloc0 _) (hI.kept (B := W0.heap.size) ⟨by omega, by omega, by omega, by omega⟩ (World.grownBy_alloc W _ none) (fun r e => by cases e)) ⟨W.heap.size, World.alloc_heap_new W _, rfl⟩
    clear hK hI
    rw [opV_enc] at *
    unfold encO at *
    obtain ⟨nm, ty, py⟩ := x
    dsimp only at *
    generalize (⟨nm.toArray⟩ : ByteArray) = nm at *
    clear hbp hI0 ht0
    gi_wp2
    exact hKK
  case body =>
    rintro l pre x a' W hl ⟨r, hr⟩ hI ⟨Bx, bX, rfl⟩ hlt
    have hlW : l < W.heap.size := (Array.getElem?_eq_some_iff.1 hr).1
    rw [hwas, hwl] at hlt
    obtain ⟨z, hz⟩ : ∃ z, was[pre.length]? = some z := ⟨_, List.getElem?_eq_getElem (by omega)⟩
    obtain ⟨z0, z1, z2⟩ := hI.row.of hz
    obtain ⟨x0, x1, x2⟩ := bX.cells
    obtain ⟨xn, xt, xp, hxn, hxt, hxp, hX⟩ := opV_lit x
    obtain ⟨zn, zt, zp, hzn, hzt, hzp, hZz⟩ := opV_lit z
    obtain ⟨d, hd⟩ : ∃ d, decide (x = z) = d := ⟨_, rfl⟩
    have hneq : ∀ w1, (binOp .neq 23 (.agg #[.string xn, .int .i64 xt, .int .i64 xp]) (.agg #[.string zn, .int .i64 zt, .int .i64 zp])).run Tryd.prog w1 = .ok (.bool (!d)) w1 := fun w1 => by
      have h9 := neqO x z w1
      rw [hX, hZz, hd] at h9
      exact h9
    rw [hxn] at x0
    rw [hxt] at x1
    rw [hxp] at x2
    rw [hzn] at z0
    rw [hzt] at z1
    rw [hzp] at z2
    rw [hX]
    have hbk := hI.bk.cell
    have hbw := hI.bw.cell
    obtain ⟨k, hk⟩ : ∃ k, pre.length = k := ⟨_, rfl⟩
    rw [hk] at hbk z0 z1 z2 hlt
    have hk0 : (0 : Int) ≤ (k : Int) := by omega
    have hkL : (k : Int) < (L.length : Int) := by omega
    have hkL2 : ¬ ((L.length : Int) ≤ (k : Int)) := by omega
    have hkI : (k : Int) ≤ 4398046511101 := by have := HLn.out; omega
    have HII := Lib.hid hI
    have HX := Lib.hid (And.intro hz (And.intro hk (And.intro hl hlW)))
    have HD := Lib.hid hd
    have HLt := Lib.hid hlt
    have hg1 : decide ((L.length : Int) ≤ (k : Int)) = false := decide_eq_false hkL2
    have hg2 : decide (L.length ≤ k) = false := decide_eq_false (by omega)
    clear hI hr hl hlW hz hk hd hX hZz hxn hxt hxp hzn hzt hzp hkL2 hlt hI0 ht0 hbp bX hwl hwas hzz hs0
    gi_wp2_with fail
    refine round_still l _ (by kernel_rfl) (by kernel_rfl) (by rintro ⟨_, _, h⟩; exact h) (by kernel_rfl) ?_
    repeat still_step
    refine wpStill_nil ?_
    have HW1 := Lib.hid (HII.out.drew ⟨by have := HZ.out; have := HX.out; omega, by have := HZ.out; have := HX.out; omega, by have := HZ.out; have := HX.out; omega, HII.out.bel.size⟩)
    have HK1 := Lib.hid (And.intro ((KeepsOthers.drew W).from W0.heap.size) (KpO.drew W0.heap.size W))
    change Exit.then _ _ Exit.normal _ W.drew
    clear hneq x0 x1 x2 z0 z1 z2 hbk hbw
    generalize W.drew = W1 at *
    have hbr := HW1.out.br.cell
    have hbrf := HW1.out.br.frozen
    have hbk := HW1.out.bk.cell
    have hbkf := HW1.out.bk.frozen
    rw [HX.out.2.1] at hbk
    cases d
    · gi_wp2
      refine ⟨HK1.out.1.trans ((KeepsOthers.setCell _ _ _).from _), ?_⟩
      · intro hp
        have h9 := HD.out
        obtain ⟨t9, ht9⟩ := hp
        have h8 := HX.out.1
        rw [← ht9, List.append_assoc, List.getElem?_append_right (Nat.le_refl _)] at h8
        simp at h8
        rw [h8] at h9
        simp at h9
    · have hxz : was[pre.length]? = some x := by
        have h9 := HX.out.1
        rw [h9, of_decide_eq_true HD.out]
      have HXZ := Lib.hid hxz
      have HB4 := Lib.hid (show B3 + 1 < W0.heap.size by have := HZ.out; omega)
      clear hxz
      gi_wp2
      refine ⟨HK1.out.1.trans ((KeepsOthers.setCell _ _ _).from _), HK1.out.2.t (KpO.turn (grownBy_setCell' _ _ _) HB4.out), ?_⟩
      exact HW1.out.step HXZ.out (by have := HZ.out; exact ⟨by omega, by omega, by omega, by omega, by omega, by omega, by omega⟩) (v := (k : Int) + 1) (by rw [HX.out.2.1])
  case done =>
    rintro D ys W hD hys hI hK
    rw [hwas] at hys
    subst hys
    have hDlt : D < W.heap.size := (Array.getElem?_eq_some_iff.1 hK).1
    have hbk := hI.bk.cell
    rw [hwl] at hbk
    have hbw := hI.bw.cell
    have hbrc := hI.br.cell
    have hbrf := hI.br.frozen
    have hkI : (L.length : Int) ≤ 4398046511101 := by have := HLn.out; omega
    have HDd := Lib.hid (And.intro hD (And.intro hDlt hK))
    have HBR := Lib.hid hI.br
    have HBl := Lib.hid hI.bel
    clear hI hI0 ht0 hbp hwl hwas hzz hs0 hD hDlt hK
    gi_wp2
    have hne : D ≠ w.heap.size := by
      intro e
      have h8 := HDd.out.2.2
      have h9 := HBR.out
      unfold Boxed at h9
      rw [show D = w.heap.size from e, h9] at h8
      cases h8
    have hK2 : (W.setCell ⟨w.heap.size, 0, none⟩ (.bool true)).heap[D]? = some (.deferred (some [])) := (Below.heap_setCell _ _ _ D hne).trans HDd.out.2.2
    have hbx : Boxed ((W.setCell ⟨w.heap.size, 0, none⟩ (.bool true)).putObj D (.deferred none)) w.heap.size 4 (.bool true) := (HBR.out.set (.bool true)).kept (grownBy_putObj' _ D _) (fun e => hne (Option.some.inj e).symm)
    have hcx := hbx.cell
    have hBe : Below w.heap.size w ((W.setCell ⟨w.heap.size, 0, none⟩ (.bool true)).putObj D (.deferred none)) := (HBl.out.setCell (p := ⟨w.heap.size, 0, none⟩) (Nat.le_refl _) _).grown (grownBy_putObj' _ D _) (by
      have := HBl.out.size
      simp [World.setCell]; omega) (fun k e => by
      cases e
      have := HDd.out.1
      have := HZ.out
      omega)
    refine ⟨by simp, .inl ⟨_, _, rfl, run_takeDeferred hK2, ?_⟩⟩
    exact ⟨.bool true, by simp [results, Tryd.results28, go_sem, hcx], rfl, hBe⟩
  case stop =>
    rintro D c pre W _ hp h _
    exact absurd (by rw [← hwas]; exact hp) h
def pickV (c : Int) : Nat := ((if c < 0 then -(c + 1) else c) % 3).toNat
theorem pickV_lt (c : Int) : pickV c < 3 := by unfold pickV; split <;> omega
set_option maxHeartbeats 4000000 in
theorem pick_any (c : Int) (h : -9223372036854775808 ≤ c ∧ c ≤ 9223372036854775807) (w : World) :
    Calls Tryd.prog 25 #[.int .i64 c, .int .i64 3] w fun e w' => e = .returned (.int .i64 (pickV c : Int)) ∧ w = w' := by
  go_enter Tryd.func25, Tryd.ntmps25
  by_cases hc : c < 0
  · have hp : ∃ n : Nat, -(c + 1) = (n : Int) ∧ pickV c = n % 3 := ⟨(-(c + 1)).toNat, by omega, by unfold pickV; rw [if_pos hc]; omega⟩
    obtain ⟨n, hn, hv⟩ := hp
    rw [hv]
    obtain ⟨l, r⟩ := h
    go_wp2
    go_ret
    exact ⟨rfl, rfl⟩
  · obtain ⟨n, rfl⟩ : ∃ n : Nat, c = (n : Int) := ⟨c.toNat, by omega⟩
    have hv : pickV n = n % 3 := by unfold pickV; rw [if_neg hc]; omega
    rw [hv]
    obtain ⟨l, r⟩ := h
    go_wp2
    go_ret
    exact ⟨rfl, rfl⟩
end Go.Proofs.YtfdcponamkfcaaaDoor

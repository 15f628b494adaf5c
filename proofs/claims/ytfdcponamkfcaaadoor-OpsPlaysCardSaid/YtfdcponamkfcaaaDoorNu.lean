import Derived.Test.YtfdcponamkfcaaaDoorNt
import Derived.Test.YtfdcponamkfcaaaDoorNm
namespace Go.Proofs.YtfdcponamkfcaaaDoor
open Go.RowKit Ho Go.Maps Go.Shelf Go.Sort Hb
set_option linter.unusedVariables false
set_option linter.unusedSimpArgs false
attribute [local go_sem] Oper.semAt_some
/-! ### OpsCopies -/
theorem cells_ne {W : World} {b : Nat} {cs : Array Value} {t : TypeId} {k : Nat × Nat} (h : W.heap[b]? = some (.cells cs t k)) {row : Option Nat} (hr : ∀ r, row = some r → ∃ o : Obj, W.heap[r]? = some o ∧ o.isCells = false) : some b ≠ row := fun e => by
  obtain ⟨o, ho, hc⟩ := hr b e.symm
  rw [h] at ho; cases ho; cases hc
theorem RowO.kept {W W' : World} {g : Nat} {xs : List OpV} {row : Option Nat} (h : RowO W g xs) (hg : W.grownBy W' row) (hr : ∀ r, row = some r → ∃ o : Obj, W.heap[r]? = some o ∧ o.isCells = false) : RowO W' g xs := by
  obtain ⟨_, o, ho, hc⟩ := h
  refine RowO.same ⟨by assumption, o, ho, hc⟩ (hg.block g (Array.getElem?_eq_some_iff.1 ho).1 (fun e => ?_))
  obtain ⟨o2, ho2, hc2⟩ := hr g e.symm
  rw [ho] at ho2; cases ho2; rw [hc] at hc2; cases hc2
theorem TabAt.kept {W W' : World} {g b1 b2 b3 N B : Nat} {L : List OpV} {row : Option Nat} (h : TabAt W g b1 b2 b3 N L) (hb : b1 < B ∧ b2 < B ∧ b3 < B) (hg : W.grownBy W' row) (hr : ∀ r, row = some r → B ≤ r ∧ ∃ o : Obj, W.heap[r]? = some o ∧ o.isCells = false) : TabAt W' g b1 b2 b3 N L := by
  obtain ⟨h0, m1, m2, m3, hd⟩ := h
  have hne : ∀ b, b < B → some b ≠ row := fun b hb e => by have := (hr b e.symm).1; omega
  exact ⟨(hg.block g (Array.getElem?_eq_some_iff.1 h0).1 (cells_ne h0 (fun r e => (hr r e).2))).trans h0, m1.kept hg (hne _ hb.1), m2.kept hg (hne _ hb.2.1), m3.kept hg (hne _ hb.2.2), hd⟩
structure CopI (w : World) (g gp gA B2 B3 B4 N M kA cA n2 c2 : Nat) (A2 : Option Addr) (was L : List OpV) (pre : List OpV) (W : World) : Prop where
  tab : ∃ Lp, TabAt W g (g + 1) (g + 1 + 1) (g + 1 + 1 + 1) M Lp
  cp : TabAt W gp (gp + 1) (gp + 2) (gp + 3) N L
  bm : Boxed W w.heap.size 30 (.slice A2 n2 c2)
  br : Boxed W (w.heap.size + 1) 4 (.bool false)
  bo : Boxed W B2 31 (.pointer (some ⟨g, 0, none⟩))
  bw : Boxed W B3 30 (.slice (some ⟨gA, 0, none⟩) kA cA)
  bk : Boxed W B4 3 (.int .i64 (pre.length : Int))
  row : RowO W gA was
  pre_ : pre = was.take pre.length
  bel : Below w.heap.size w W
theorem KpO.turn {n₀ j : Nat} {W W' : World} (hg : W.grownBy W' (some j)) (hj : j < n₀) : KpO n₀ none W W' :=
  ⟨hg.size, fun b o hb ho _ _ => (hg.block b (Array.getElem?_eq_some_iff.1 ho).1 (fun e => by cases e; omega)).trans ho, fun b h => by cases h⟩
theorem KpO.drew (n₀ : Nat) (W : World) : KpO n₀ none W W.drew := ⟨Nat.le_refl _, fun _ _ _ h _ _ => h, fun _ h => by cases h⟩
theorem KpO.alloc0 {n₀ : Nat} {W : World} (o : Obj) : KpO n₀ none W (W.alloc o) := KpO.grown (by simp) (fun b hb => Below.heap_alloc _ _ b hb) (fun B' e => by cases e)
theorem CopI.kept {w : World} {g gp gA B2 B3 B4 N M kA cA n2 c2 B : Nat} {A2 : Option Addr} {was L pre : List OpV} {W W' : World} {row : Option Nat} (h : CopI w g gp gA B2 B3 B4 N M kA cA n2 c2 A2 was L pre W) (hB : g + 3 < B ∧ gp + 3 < B ∧ w.heap.size ≤ B)
    (hg : W.grownBy W' row) (hr : ∀ r, row = some r → B ≤ r ∧ ∃ o : Obj, W.heap[r]? = some o ∧ o.isCells = false) : CopI w g gp gA B2 B3 B4 N M kA cA n2 c2 A2 was L pre W' := by
  have hr2 : ∀ r, row = some r → ∃ o : Obj, W.heap[r]? = some o ∧ o.isCells = false := fun r e => (hr r e).2
  obtain ⟨Lp, ht⟩ := h.tab
  exact ⟨⟨Lp, ht.kept (B := B) ⟨by omega, by omega, by omega⟩ hg hr⟩, h.cp.kept (B := B) ⟨by omega, by omega, by omega⟩ hg hr, h.bm.kept hg (cells_ne h.bm hr2), h.br.kept hg (cells_ne h.br hr2), h.bo.kept hg (cells_ne h.bo hr2), h.bw.kept hg (cells_ne h.bw hr2), h.bk.kept hg (cells_ne h.bk hr2), h.row.kept hg hr2, h.pre_,
    h.bel.grown hg h.bel.size (fun k e => Nat.le_trans hB.2.2 (hr k e).1)⟩
theorem TabAt.grown {W W' : World} {g b1 b2 b3 N j : Nat} {L : List OpV} (h : TabAt W g b1 b2 b3 N L) (hg : W.grownBy W' (some j)) (hj : g ≠ j ∧ b1 ≠ j ∧ b2 ≠ j ∧ b3 ≠ j) : TabAt W' g b1 b2 b3 N L := by
  obtain ⟨h0, m1, m2, m3, hd⟩ := h
  have hne : ∀ b, b ≠ j → some b ≠ some j := fun b hb e => hb (Option.some.inj e)
  exact ⟨(hg.block g (Array.getElem?_eq_some_iff.1 h0).1 (hne _ hj.1)).trans h0, m1.kept hg (hne _ hj.2.1), m2.kept hg (hne _ hj.2.2.1), m3.kept hg (hne _ hj.2.2.2), hd⟩
theorem RowO.grown {W W' : World} {g j : Nat} {xs : List OpV} (h : RowO W g xs) (hg : W.grownBy W' (some j)) (hj : g ≠ j) : RowO W' g xs :=
  h.same (hg.block g h.lt (fun e => hj (Option.some.inj e)))
theorem Boxed.grown {W W' : World} {B j : Nat} {t : TypeId} {v : Value} (h : Boxed W B t v) (hg : W.grownBy W' (some j)) (hj : B ≠ j) : Boxed W' B t v := h.kept hg (fun e => hj (Option.some.inj e))
theorem CopI.more {w : World} {g gp gA B2 B3 B4 N M kA cA n2 c2 : Nat} {A2 : Option Addr} {was L pre : List OpV} {W : World} (h : CopI w g gp gA B2 B3 B4 N M kA cA n2 c2 A2 was L pre W) : CopI w g gp gA B2 B3 B4 N (M + 1) kA cA n2 c2 A2 was L pre W :=
  let ⟨Lp, ht⟩ := h.tab
  ⟨⟨Lp, ht.more⟩, h.cp, h.bm, h.br, h.bo, h.bw, h.bk, h.row, h.pre_, h.bel⟩
theorem CopI.drew {w : World} {g gp gA B2 B3 B4 N M kA cA n2 c2 : Nat} {A2 : Option Addr} {was L pre : List OpV} {W : World} (h : CopI w g gp gA B2 B3 B4 N M kA cA n2 c2 A2 was L pre W) (hB : g + 3 < W.heap.size ∧ gp + 3 < W.heap.size ∧ w.heap.size ≤ W.heap.size) : CopI w g gp gA B2 B3 B4 N M kA cA n2 c2 A2 was L pre W.drew :=
  h.kept (B := W.heap.size) hB ⟨rfl, rfl, rfl, Nat.le_refl _, fun _ _ _ => rfl⟩ (row := none) (fun r e => by cases e)
theorem CopI.add {w : World} {g gp gA B2 B3 B4 N M kA cA n2 c2 : Nat} {A2 : Option Addr} {was L pre Lp Lp' : List OpV} {W W' : World} {co : Int} {e : Ending} (h : CopI w g gp gA B2 B3 B4 N M kA cA n2 c2 A2 was L pre W) (ht : TabAt W g (g + 1) (g + 1 + 1) (g + 1 + 1 + 1) M Lp)
    (hA : AddPost W g (g + 1) (g + 1 + 1) (g + 1 + 1 + 1) M Lp Lp' co e W') (hz : g + 3 < gp ∧ w.heap.size ≤ g) : CopI w g gp gA B2 B3 B4 N (M + 1) kA cA n2 c2 A2 was L pre W' := by
  have hA2 := hA
  obtain ⟨_, ht', b, hb, hg⟩ := hA2
  have hb3 : b ≤ g + 3 ∧ g < b := by rcases hb with rfl | rfl | rfl <;> omega
  have row : RowO W' gA was := by
    obtain ⟨_, o, ho, hoc⟩ := h.row
    cases o <;> first
      | (cases hoc; done)
      | exact h.row.same ((hA.cells ht ho).trans ho.symm)
  exact ⟨⟨Lp', ht'⟩, h.cp.grown hg ⟨by omega, by omega, by omega, by omega⟩, hA.cells ht h.bm, hA.cells ht h.br, hA.cells ht h.bo, hA.cells ht h.bw, hA.cells ht h.bk, row, h.pre_, hA.below h.bel ⟨by omega, by omega, by omega⟩⟩
theorem CopI.step {w : World} {g gp gA B2 B3 B4 N M kA cA n2 c2 : Nat} {A2 : Option Addr} {was L pre : List OpV} {W : World} {x : OpV} (h : CopI w g gp gA B2 B3 B4 N M kA cA n2 c2 A2 was L pre W) (hx : was[pre.length]? = some x)
    (hz : g + 3 < B4 ∧ gp + 3 < B4 ∧ w.heap.size + 1 < B4 ∧ B2 < B4 ∧ B3 < B4 ∧ gA < B4) {v : Int} (hv : v = (pre.length : Int) + 1) : CopI w g gp gA B2 B3 B4 N M kA cA n2 c2 A2 was L (pre ++ [x]) (W.setCell ⟨B4, 0, none⟩ (.int .i64 v)) := by
  have hg := grownBy_setCell' W B4 (.int .i64 v)
  obtain ⟨Lp, ht⟩ := h.tab
  refine ⟨⟨Lp, ht.grown hg ⟨by omega, by omega, by omega, by omega⟩⟩, h.cp.grown hg ⟨by omega, by omega, by omega, by omega⟩, Boxed.grown h.bm hg (by omega), Boxed.grown h.br hg (by omega), Boxed.grown h.bo hg (by omega), Boxed.grown h.bw hg (by omega), ?_, h.row.grown hg (by omega), ?_, h.bel.grown hg h.bel.size (fun k e => by cases e; omega)⟩
  · have h9 := h.bk.set (.int .i64 v)
    rw [hv] at h9 ⊢
    have e : ((pre ++ [x]).length : Int) = (pre.length : Int) + 1 := by simp
    rw [e]; exact h9
  · obtain ⟨hi, e⟩ := List.getElem?_eq_some_iff.1 hx
    rw [List.length_append, List.length_singleton, List.take_succ_eq_append_getElem hi, e, ← h.pre_]
theorem neqO (x y : OpV) (w : World) : (binOp .neq 23 (opV x) (opV y)).run Tryd.prog w = .ok (.bool (!decide (x = y))) w := by
  have h := eqO x y w
  unfold opV at *
  rw [run_eql_struct] at h
  rw [run_neq_struct]
  generalize (Op.equalIn 10000 23 (.agg #[.string ⟨x.n.toArray⟩, .int .i64 x.t, .int .i64 x.p]) (.agg #[.string ⟨y.n.toArray⟩, .int .i64 y.t, .int .i64 y.p])).run Tryd.prog w = r at *
  cases r with
  | ok b w' =>
    simp only [Result.andThen] at h ⊢
    cases h
    rfl
  | halt s w' => simp only [Result.andThen] at h; cases h
set_option maxRecDepth 100000 in
set_option maxHeartbeats 8000000 in
theorem Copies_walk {w : World} (hT : Tab w) (h2 : 2 ≤ w.heap.size) {A : Option Addr} {n c : Nat} {ls : List OpV} (hA : ArgO w w.heap.size A n c ls) (hn : n ≤ 4398046511000)
    {A2 : Option Addr} {n2 c2 : Nat} {ms : List OpV} (hA2 : ArgO w w.heap.size A2 n2 c2 ms) (hn2 : n2 ≤ 4398046511000) :
    Calls Tryd.prog 6 #[.slice A n c, .slice A2 n2 c2] w (AwakePost w) := by
  have HB0 := Lib.hid (show Below w.heap.size w ((w.alloc (.cells #[.slice A2 n2 c2] 30)).alloc (.cells #[.bool false] 4)) from ((Below.refl _ _).alloc (Nat.le_refl _) _).alloc (by simp) _)
  have HX0 := Lib.hid (show Boxed ((w.alloc (.cells #[.slice A2 n2 c2] 30)).alloc (.cells #[.bool false] 4)) w.heap.size 30 (.slice A2 n2 c2) from (Boxed.new w _ _).alloc _)
  have HY0 := Lib.hid (show Boxed ((w.alloc (.cells #[.slice A2 n2 c2] 30)).alloc (.cells #[.bool false] 4)) (w.heap.size + 1) 4 (.bool false) from by
    have := Boxed.new (w.alloc (.cells #[.slice A2 n2 c2] 30)) 4 (.bool false)
    rwa [World.size_alloc] at this)
  have HT := Lib.hid (fun w1 (hb : Below w.heap.size w w1) => And.intro (hT.below hb h2) (Nat.le_trans h2 hb.size))
  have HA := Lib.hid (fun w1 (hb : Below w.heap.size w w1) => show ArgO w1 w1.heap.size A n c ls from ⟨hA.len, hA.cap, hA.max, (hA.rd.below hb (Nat.le_refl _)).mono hb.size, hA.nm⟩)
  have HA2 := Lib.hid (fun w1 (hb : Below w.heap.size w w1) => show ArgO w1 w.heap.size A2 n2 c2 ms from hA2.below hb)
  obtain ⟨L, hL⟩ : ∃ L, fill L0 ls = L := ⟨_, rfl⟩
  have HI := Lib.hid (show Inv L by rw [← hL]; exact inv_fill inv_L0 ls)
  have HLn := Lib.hid (show L.length ≤ 100 + n by rw [← hL, ← hA.len]; have := fill_len L0 ls; have := L0_len; omega)
  have HL := Lib.hid hL
  have HR := Lib.hid rows_len
  have hc2 := hA2.cap
  clear hT h2 hA hL hA2
  refine (callsIn_wide (n := 4)).1 ?_
  refine callsIn_of_wp_marks Tryd.func6 rfl trivial ?_ rfl
  simp only [Tryd.ntmps6, List.size_toArray, List.length_cons, List.length_nil, Nat.reduceAdd, Nat.reduceSub, Array.replicate_succ, Array.replicate_zero, List.push_toArray, List.append_toArray, List.nil_append, List.cons_append]
  gi_wp2_with fail
  refine ⟨trivial, ?_⟩
  (with_reducible refine (callsIn_wide.2 (awake_any (HT.out _ HB0.out).1 (HT.out _ HB0.out).2)).mono ?_)
  rintro ex w1 ⟨rfl, hb1⟩
  have HX1 := Lib.hid (show Boxed w1 w.heap.size _ _ from (hb1.block _ HX0.out.lt).trans HX0.out)
  have HY1 := Lib.hid (show Boxed w1 (w.heap.size + 1) _ _ from (hb1.block _ HY0.out.lt).trans HY0.out)
  have HB1 := Lib.hid (HB0.out.trans (hb1.mono HB0.out.size))
  clear hb1
  gi_wp2_with fail
  refine ⟨trivial, ?_⟩
  (with_reducible refine (callsIn_wide.2 (filled_any (HT.out _ HB1.out).1 (HT.out _ HB1.out).2 (HA.out _ HB1.out) (by omega))).mono ?_)
  rintro ex w2 ⟨rfl, ht2, hb2⟩
  rw [HL.out] at ht2
  have hx2 : Boxed w2 w.heap.size _ _ := (hb2.block _ HX1.out.lt).trans HX1.out
  have hy2 : Boxed w2 (w.heap.size + 1) _ _ := (hb2.block _ HY1.out.lt).trans HY1.out
  have hB2 := HB1.out.trans (hb2.mono HB1.out.size)
  have HZ1 := Lib.hid (show w.heap.size + 2 ≤ w1.heap.size by have := HY1.out.lt; omega)
  have HZ2 := Lib.hid (show w1.heap.size + 3 < w2.heap.size from by obtain ⟨_, _, _, m3, _⟩ := ht2; exact m3.lt)
  clear hb2
  generalize w1.heap.size = g at *
  have HO3 := Lib.hid (Boxed.new w2 31 (.pointer (some ⟨g, 0, none⟩)))
  have HT3 := Lib.hid (ht2.below' ((Below.refl _ w2).alloc (Nat.le_refl _) (.cells #[.pointer (some ⟨g, 0, none⟩)] 31)))
  have HX3 := Lib.hid (hx2.alloc (.cells #[.pointer (some ⟨g, 0, none⟩)] 31))
  have HY3 := Lib.hid (hy2.alloc (.cells #[.pointer (some ⟨g, 0, none⟩)] 31))
  have HB3 := Lib.hid (hB2.alloc hB2.size (.cells #[.pointer (some ⟨g, 0, none⟩)] 31))
  clear ht2 hx2 hy2 hB2
  gi_wp2_with fail
  generalize hw3 : w2.alloc (.cells #[.pointer (some ⟨g, 0, none⟩)] 31) = w3 at *
  have HS3 := Lib.hid (show w3.heap.size = w2.heap.size + 1 by rw [← hw3]; simp)
  clear hw3
  generalize w2.heap.size = B2 at *
  refine ⟨trivial, ?_⟩
  (with_reducible refine (callsIn_wide.2 (Copy_any clone_ok HT3.out)).mono ?_)
  rintro ex w4 ⟨rfl, ht4, hb4⟩
  have HO4 := Lib.hid (show Boxed w4 B2 _ _ from (hb4.block _ HO3.out.lt).trans HO3.out)
  have HX4 := Lib.hid (show Boxed w4 w.heap.size _ _ from (hb4.block _ HX3.out.lt).trans HX3.out)
  have HY4 := Lib.hid (show Boxed w4 (w.heap.size + 1) _ _ from (hb4.block _ HY3.out.lt).trans HY3.out)
  have HT4 := Lib.hid (HT3.out.below' hb4)
  have HP4 := Lib.hid ht4
  have HB4 := Lib.hid (HB3.out.trans (hb4.mono HB3.out.size))
  have HZ4 := Lib.hid (show w3.heap.size + 3 < w4.heap.size from by obtain ⟨_, _, _, m3, _⟩ := ht4; exact m3.lt)
  clear hb4 ht4
  generalize w3.heap.size = gp at *
  have ho4 := HO4.out.cell
  gi_wp2_with fail
  refine ⟨trivial, ?_⟩
  (with_reducible refine (callsIn_wide.2 (alls_any sort_ok HT4.out (good_of HI.out) (by have := HLn.out; omega))).mono ?_)
  rintro ex w5 ⟨gA, cA, rfl, hrow5, hb5⟩
  have h5 := row_of_owns hrow5
  have HR5 := Lib.hid h5.1
  have HZ5 := Lib.hid (And.intro h5.2.1 h5.2.2.1)
  have hcap5 := owns_cap hrow5
  have hb67 : Below w5.heap.size w5 ((w5.alloc (.cells #[.slice (some ⟨gA, 0, none⟩) L.length cA] 30)).alloc (.cells #[.int .i64 0] 3)) := ((Below.refl _ _).alloc (Nat.le_refl _) _).alloc (by simp) _
  have ho5 : Boxed w5 B2 _ _ := (hb5.block _ HO4.out.lt).trans HO4.out
  have hx5 : Boxed w5 w.heap.size _ _ := (hb5.block _ HX4.out.lt).trans HX4.out
  have hy5 : Boxed w5 (w.heap.size + 1) _ _ := (hb5.block _ HY4.out.lt).trans HY4.out
  have ht5 := HT4.out.below' hb5
  have hp5 := HP4.out.below' hb5
  have hB5 := HB4.out.trans (hb5.mono HB4.out.size)
  have HLL := Lib.hid (show w4.heap.size ≤ w5.heap.size from hb5.size)
  have HW5 := Lib.hid (And.intro ho5 (And.intro hx5 (And.intro hy5 (And.intro ht5 (And.intro hp5 hB5)))))
  clear h5 hrow5 hb5 ho5 hx5 hy5 ht5 hp5 hB5 ho4
  have ho7 := (HW5.out.1.alloc (.cells #[.slice (some ⟨gA, 0, none⟩) L.length cA] 30)).alloc (.cells #[.int .i64 0] 3)
  have hc7 := ho7.cell
  gi_wp2_with fail
  refine ⟨trivial, ?_⟩
  (with_reducible refine (callsIn_wide.2 (all_in _ _)).mono ?_)
  rintro ex w8 ⟨rfl, rfl⟩
  gi_wp2_with fail
  obtain ⟨was, hwas⟩ : ∃ l, srt L = l := ⟨_, rfl⟩
  have hwl : was.length = L.length := by rw [← hwas]; exact (srt_perm L).length_eq
  obtain ⟨B3, hB3⟩ : ∃ B3, w5.heap.size = B3 := ⟨_, rfl⟩
  obtain ⟨W0, hW0⟩ : ∃ W0, ((w5.alloc (.cells #[.slice (some ⟨gA, 0, none⟩) L.length cA] 30)).alloc (.cells #[.int .i64 0] 3)).alloc (.cells #[.pointer (some ⟨g, 0, none⟩)] 31) = W0 := ⟨_, rfl⟩
  have hs0 : W0.heap.size = B3 + 3 := by rw [← hW0, ← hB3]; simp
  have hb0 : Below w5.heap.size w5 W0 := by rw [← hW0]; exact hb67.alloc hb67.size _
  have hbw : Boxed W0 B3 30 (.slice (some ⟨gA, 0, none⟩) L.length cA) := by rw [← hW0, ← hB3]; exact ((Boxed.new w5 _ _).alloc _).alloc _
  have hbk : Boxed W0 (B3 + 1) 3 (.int .i64 0) := by
    rw [← hW0, ← hB3]
    have h9 := Boxed.new (w5.alloc (.cells #[.slice (some ⟨gA, 0, none⟩) L.length cA] 30)) 3 (.int .i64 0)
    rw [World.size_alloc] at h9
    exact h9.alloc _
  have hbp : Boxed W0 (B3 + 1 + 1) 31 (.pointer (some ⟨g, 0, none⟩)) := by
    rw [← hW0, ← hB3]
    have h9 := Boxed.new ((w5.alloc (.cells #[.slice (some ⟨gA, 0, none⟩) L.length cA] 30)).alloc (.cells #[.int .i64 0] 3)) 31 (.pointer (some ⟨g, 0, none⟩))
    rw [World.size_alloc, World.size_alloc] at h9
    exact h9
  have hI0 : CopI w g gp gA B2 B3 (B3 + 1) ((rowsO 14).length + n) ((rowsO 14).length + n) L.length cA n2 c2 A2 was L [] W0 := by
    obtain ⟨ho5, hx5, hy5, ht5, hp5, hB5⟩ := HW5.out
    exact ⟨⟨L, ht5.below' hb0⟩, hp5.below' hb0, (hb0.block _ hx5.lt).trans hx5, (hb0.block _ hy5.lt).trans hy5, (hb0.block _ ho5.lt).trans ho5, hbw, hbk, by rw [← hwas]; exact HR5.out.same (hb0.block _ HZ5.out.2), rfl, hB5.trans (hb0.mono hB5.size)⟩
  have hzz : g + 3 < B2 ∧ B2 < gp ∧ gp + 3 < B3 ∧ w.heap.size + 2 ≤ g ∧ gA < B3 := by
    have := HZ2.out; have := HS3.out; have := HZ4.out; have := HLL.out; have := HZ1.out; have := HZ5.out
    exact ⟨by omega, by omega, by omega, by omega, by omega⟩
  rw [hB3, hW0]
  have ht0 : TabAt W0 g (g + 1) (g + 1 + 1) (g + 1 + 1 + 1) ((rowsO 14).length + n) L := HW5.out.2.2.2.1.below' hb0
  clear hb67 ho7 hc7 hb0 hbw hbk hW0
  have HI0 := Lib.hid hI0
  have HZ := Lib.hid (And.intro hzz hs0)
  refine wpIn_rangeFunc_ownH rfl (by omega) (gf := 37) (lb := #[.pointer (some ⟨B3 + 1 + 1, 0, none⟩)]) rfl trivial (enters_of Tryd.func37 (by kernel_rfl) rfl)
    (all_stops sort_ok 3 (by omega) (B3 + 1 + 1) g (g + 1) (g + 1 + 1) (g + 1 + 1 + 1) ((rowsO 14).length + n) none L (good_of HI.out) (by have := HLn.out; omega) W0 hbp.cell ht0 (fun B e => by cases e) (fun b e => by cases e)) KpO.t (KpO.b (fun B e => by cases e)) (Below.refl _ _) (fun _ => rfl)
    (fun pre W => CopI w g gp gA B2 B3 (B3 + 1) ((rowsO 14).length + n) ((rowsO 14).length + n + pre.length) L.length cA n2 c2 A2 was L pre W)
    (fun _ pre _ => ¬ pre <+: was)
    (fun pre W W' row hs hg hr => hs.kept (B := W0.heap.size) ⟨by omega, by omega, by omega⟩ hg hr)
    (fun _ _ _ _ _ hs _ _ => hs)
    hI0
    (fun x a' W => ∃ Bx, BoxO W Bx x ∧ a' = { tmps := #[.slice A n c, .slice A2 n2 c2, undef, .pointer (some ⟨w.heap.size, 0, none⟩), .pointer (some ⟨w.heap.size + 1, 0, none⟩), .bool true, .pointer (some ⟨B2, 0, none⟩), .pointer (some ⟨gp, 0, none⟩), .pointer (some ⟨B3, 0, none⟩), .pointer (some ⟨B3 + 1, 0, none⟩), .pointer (some ⟨Bx, 0, none⟩), undef, undef, .bool true, .slice A n c, .pointer (some ⟨g, 0, none⟩), .bool true, .bool false, .bool false, .pointer (some ⟨g, 0, none⟩), .bool false, .bool false, .pointer (some ⟨g, 0, none⟩), .pointer (some ⟨gp, 0, none⟩), .pointer (some ⟨g, 0, none⟩), .slice (some ⟨gA, 0, none⟩) L.length cA, .pointer (some ⟨g, 0, none⟩), .func (.func 37) #[] #[.pointer (some ⟨B3 + 1 + 1, 0, none⟩)], opV x, undef, undef, undef, undef, undef, undef, undef, undef, undef, undef, undef, undef, undef, undef, undef, undef, undef, undef, undef, undef, undef, undef, undef, undef, undef, undef, undef, undef, undef, undef, undef, undef, undef, undef, undef, undef, undef, undef, undef, undef, undef, undef, undef, undef, undef, undef, undef, undef, undef, undef, undef, undef, undef, undef, undef, undef, undef, undef, undef, undef, undef, undef, undef, undef, undef], defers := [] })
    (fun x a' _ W W' row hs hg hr => by obtain ⟨Bx, hb, rfl⟩ := hs; exact ⟨Bx, hb.kept hg (fun r e => (hr r e).2), rfl⟩) ?assign ?body ?done ?stop
  case assign =>
    rintro l pre x W K hI hK
    have hKK := hK { tmps := #[.slice A n c, .slice A2 n2 c2, undef, .pointer (some ⟨w.heap.size, 0, none⟩), .pointer (some ⟨w.heap.size + 1, 0, none⟩), .bool true, .pointer (some ⟨B2, 0, none⟩), .pointer (some ⟨gp, 0, none⟩), .pointer (some ⟨B3, 0, none⟩), .pointer (some ⟨B3 + 1, 0, none⟩), .pointer (some ⟨W.heap.size, 0, none⟩), undef, undef, .bool true, .slice A n c, .pointer (some ⟨g, 0, none⟩), .bool true, .bool false, .bool false, .pointer (some ⟨g, 0, none⟩), .bool false, .bool false, .pointer (some ⟨g, 0, none⟩), .pointer (some ⟨gp, 0, none⟩), .pointer (some ⟨g, 0, none⟩), .slice (some ⟨gA, 0, none⟩) L.length cA, .pointer (some ⟨g, 0, none⟩), .func (.func 37) #[] #[.pointer (some ⟨B3 + 1 + 1, 0, none⟩)], opV x, undef, undef, undef, undef, undef, undef, undef, undef, undef, undef, undef, undef, undef, undef, undef, undef, undef, undef, undef, undef, undef, undef, undef, undef, undef, undef, undef, undef, undef, undef, undef, undef, undef, undef, undef, undef, undef, undef, undef, undef, undef, undef, undef, undef, undef, undef, undef, undef, undef, undef, undef, undef, undef, undef, undef, undef, undef, undef, undef, undef, undef, undef, undef, undef, undef], defers := [] } (W.alloc (.cells (encO x).toArray 23))
      ((KeepsOthers.alloc _ _).from _) (KpO.alloc0 _) (hI.kept (B := W0.heap.size) ⟨by omega, by omega, by omega⟩ (World.grownBy_alloc W _ none) (fun r e => by cases e)) ⟨W.heap.size, World.alloc_heap_new W _, rfl⟩
    clear hK hI
    rw [opV_enc] at *
    unfold encO at *
    obtain ⟨nm, ty, py⟩ := x
    dsimp only at *
    generalize (⟨nm.toArray⟩ : ByteArray) = nm at *
    clear hbp hI0 ht0
    gi_wp2
    exact hKK
  case body =>
    rintro l pre x a' W hl ⟨r, hr⟩ hI ⟨Bx, bX, rfl⟩ hlt
    have hlW : l < W.heap.size := (Array.getElem?_eq_some_iff.1 hr).1
    rw [hwas, hwl] at hlt
    obtain ⟨z, hz⟩ : ∃ z, was[pre.length]? = some z := ⟨_, List.getElem?_eq_getElem (by omega)⟩
    obtain ⟨z0, z1, z2⟩ := hI.row.of hz
    obtain ⟨x0, x1, x2⟩ := bX.cells
    obtain ⟨xn, xt, xp, hxn, hxt, hxp, hX⟩ := opV_lit x
    obtain ⟨zn, zt, zp, hzn, hzt, hzp, hZz⟩ := opV_lit z
    obtain ⟨d, hd⟩ : ∃ d, decide (x = z) = d := ⟨_, rfl⟩
    have hneq : ∀ w1, (binOp .neq 23 (.agg #[.string xn, .int .i64 xt, .int .i64 xp]) (.agg #[.string zn, .int .i64 zt, .int .i64 zp])).run Tryd.prog w1 = .ok (.bool (!d)) w1 := fun w1 => by
      have h9 := neqO x z w1
      rw [hX, hZz, hd] at h9
      exact h9
    rw [hxn] at x0
    rw [hxt] at x1
    rw [hxp] at x2
    rw [hzn] at z0
    rw [hzt] at z1
    rw [hzp] at z2
    rw [hX]
    have hbk := hI.bk.cell
    have hbw := hI.bw.cell
    obtain ⟨k, hk⟩ : ∃ k, pre.length = k := ⟨_, rfl⟩
    rw [hk] at hbk z0 z1 z2 hlt
    have hk0 : (0 : Int) ≤ (k : Int) := by omega
    have hkL : (k : Int) < (L.length : Int) := by omega
    have hkL2 : ¬ ((L.length : Int) ≤ (k : Int)) := by omega
    have hkI : (k : Int) ≤ 4398046511101 := by have := HLn.out; omega
    have HII := Lib.hid hI
    have HX := Lib.hid (And.intro hz (And.intro hk (And.intro hl hlW)))
    have HD := Lib.hid hd
    have HLt := Lib.hid hlt
    have hg1 : decide ((L.length : Int) ≤ (k : Int)) = false := decide_eq_false hkL2
    have hg2 : decide (L.length ≤ k) = false := decide_eq_false (by omega)
    clear hI hr hl hlW hz hk hd hX hZz hxn hxt hxp hzn hzt hzp hkL2 hlt hI0 ht0 hbp bX hwl hwas hzz hs0
    gi_wp2_with fail
    refine round_still l _ (by kernel_rfl) (by kernel_rfl) (by rintro ⟨_, _, h⟩; exact h) (by kernel_rfl) ?_
    repeat still_step
    refine wpStill_nil ?_
    have HW1 := Lib.hid (HII.out.drew ⟨by have := HZ.out; have := HX.out; omega, by have := HZ.out; have := HX.out; omega, HII.out.bel.size⟩)
    have HK1 := Lib.hid (And.intro ((KeepsOthers.drew W).from W0.heap.size) (KpO.drew W0.heap.size W))
    change Exit.then _ _ Exit.normal _ W.drew
    clear hneq x0 x1 x2 z0 z1 z2 hbk hbw
    generalize W.drew = W1 at *
    have hbr := HW1.out.br.cell
    have hbrf := HW1.out.br.frozen
    have hbk := HW1.out.bk.cell
    have hbkf := HW1.out.bk.frozen
    have hbm := HW1.out.bm.cell
    have hbo := HW1.out.bo.cell
    rw [HX.out.2.1] at hbk
    cases d
    · gi_wp2
      refine ⟨HK1.out.1.trans ((KeepsOthers.setCell _ _ _).from _), ?_⟩
      · intro hp
        have h9 := HD.out
        obtain ⟨t9, ht9⟩ := hp
        have h8 := HX.out.1
        rw [← ht9, List.append_assoc, List.getElem?_append_right (Nat.le_refl _)] at h8
        simp at h8
        rw [h8] at h9
        simp at h9
    · have hxz : was[pre.length]? = some x := by
        have h9 := HX.out.1
        rw [h9, of_decide_eq_true HD.out]
      have HXZ := Lib.hid hxz
      have HZZ := Lib.hid (show g + 3 < B3 + 1 ∧ gp + 3 < B3 + 1 ∧ w.heap.size + 1 < B3 + 1 ∧ B2 < B3 + 1 ∧ B3 < B3 + 1 ∧ gA < B3 + 1 by have := HZ.out; exact ⟨by omega, by omega, by omega, by omega, by omega, by omega⟩)
      have HB4 := Lib.hid (show B3 + 1 < W0.heap.size by have := HZ.out; omega)
      clear hxz
      by_cases hkm : k < n2
      · have hkmI : (k : Int) < (n2 : Int) := by omega
        have hml : k < ms.length := by rw [(HA2.out _ HW1.out.bel).len]; exact hkm
        obtain ⟨b, o, hAA, hbB, hcells⟩ := (HA2.out _ HW1.out.bel).at_ (by omega)
        obtain ⟨m0, m1, m2⟩ := hcells k hml
        subst hAA
        obtain ⟨y, hy⟩ : ∃ y, ms[k] = y := ⟨_, rfl⟩
        rw [hy] at m0 m1 m2
        have hyn : y.n.length ≤ maxLen := (HA2.out _ HW1.out.bel).nm y (by rw [← hy]; exact List.getElem_mem hml)
        obtain ⟨Lp, hLp⟩ := HW1.out.tab
        have HTd := Lib.hid (show TabAt W1.drew g (g + 1) (g + 1 + 1) (g + 1 + 1 + 1) ((rowsO 14).length + n + pre.length) Lp from hLp.below' (below_drew (Below.refl _ _)))
        have HAdd := Lib.hid (Add_any (w := W1.drew) (p := y.p) (k := y.t) (s := ⟨y.n.toArray⟩) HTd.out (show y.n.toArray.size ≤ maxLen by rw [List.size_toArray]; exact hyn) (by have := HR.out; have := HX.out.2.1; unfold maxLen; omega))
        have HWd := Lib.hid (show CopI _ _ _ _ _ _ _ _ _ _ _ _ _ _ _ _ _ W1.drew from HW1.out.drew ⟨by have := HZ.out; have := HX.out; have := HK1.out.2.size; omega, by have := HZ.out; have := HX.out; have := HK1.out.2.size; omega, HW1.out.bel.size⟩)
        have HKm := Lib.hid hkm
        clear hcells hml hbB hy hyn hLp hkm
        gi_wp2_with fail
        refine round_still_tail l _ 16 (by kernel_rfl) (by kernel_rfl) (by rintro ⟨_, _, h⟩; exact h) (by kernel_rfl) ?_
        simp only [List.take_succ_cons, List.take_zero, List.drop_succ_cons, List.drop_zero]
        repeat still_step
        refine wpStill_nil ?_
        change wpList _ _ _ _ _ W1.drew
        go_wp2_with ((go_at_call 17; (with_reducible refine HAdd.out.mono ?_); intro e w2 h2; have H2 := Lib.hid h2; clear h2; obtain ⟨rfl, _⟩ := H2.out))
        have hI2 := HWd.out.add HTd.out H2.out (by have := HZ.out; exact ⟨by omega, by omega⟩)
        have HI2 := Lib.hid hI2
        have hbk2 := hI2.bk.cell
        have hbk3 := hI2.bk.frozen
        rw [HX.out.2.1] at hbk2
        have HK2 := Lib.hid (show KeepsFrom W0.heap.size W w2 ∧ KpO W0.heap.size none W w2 by
          obtain ⟨_, _, bb, hbb, hgg⟩ := H2.out
          have hlt9 : bb < W0.heap.size := by have := HZ.out; rcases hbb with rfl | rfl | rfl <;> omega
          exact ⟨(HK1.out.1.trans ((KeepsOthers.drew W1).from _)).trans (KeepsFrom.of_grownBy hgg (fun j e => by cases e; exact hlt9)), (HK1.out.2.t (KpO.drew _ _)).t (KpO.turn hgg hlt9)⟩)
        clear hI2 hbk hbkf hbr hbrf hbm hbo m0 m1 m2
        gi_wp2
        refine ⟨HK2.out.1.trans ((KeepsOthers.setCell _ _ _).from _), HK2.out.2.t (KpO.turn (grownBy_setCell' _ _ _) HB4.out), ?_⟩
        have h9 := HI2.out.step HXZ.out HZZ.out (v := (k : Int) + 1) (by rw [HX.out.2.1])
        have e : (rowsO 14).length + n + (pre ++ [x]).length = (rowsO 14).length + n + pre.length + 1 := by simp; omega
        show CopI _ _ _ _ _ _ _ _ _ _ _ _ _ _ _ _ (pre ++ [x]) _
        rw [e]
        exact h9
      · have hkm2 : ¬ ((k : Int) < (n2 : Int)) := by omega
        gi_wp2
        refine ⟨HK1.out.1.trans ((KeepsOthers.setCell _ _ _).from _), HK1.out.2.t (KpO.turn (grownBy_setCell' _ _ _) HB4.out), ?_⟩
        have h9 := (HW1.out.more).step HXZ.out HZZ.out (v := (k : Int) + 1) (by rw [HX.out.2.1])
        have e : (rowsO 14).length + n + (pre ++ [x]).length = (rowsO 14).length + n + pre.length + 1 := by simp; omega
        show CopI _ _ _ _ _ _ _ _ _ _ _ _ _ _ _ _ (pre ++ [x]) _
        rw [e]
        exact h9
  case done =>
    rintro D ys W hD hys hI hK
    rw [hwas] at hys
    subst hys
    have hDlt : D < W.heap.size := (Array.getElem?_eq_some_iff.1 hK).1
    have hbk := hI.bk.cell
    rw [hwl] at hbk
    have hbw := hI.bw.cell
    have hbr := hI.br
    have hcp := hI.cp
    have hrow := hI.row
    have hbel := hI.bel
    have HWL := Lib.hid hwl
    have HWS := Lib.hid hwas
    have HDd := Lib.hid (And.intro hD (And.intro hDlt hK))
    have HH := Lib.hid (And.intro hbr (And.intro hcp (And.intro hrow hbel)))
    have HBW := Lib.hid hI.bw
    clear hI hI0 ht0 hbp hwl hwas hzz hs0 hD hDlt hK hbr hcp hrow hbel
    gi_wp2_with fail
    refine ⟨trivial, ?_⟩
    (with_reducible refine (callsIn_wide.2 (alls_any sort_ok HH.out.2.1 (good_of HI.out) (by have := HLn.out; omega))).mono ?_)
    rintro ex w9 ⟨gC, cC, rfl, hrow9, hb9⟩
    have HR9 := Lib.hid (row_of_owns hrow9).1
    have hcap9 := owns_cap hrow9
    have HQ9 := Lib.hid (show Boxed w9 (w.heap.size + 1) 4 (.bool false) ∧ RowO w9 gA ys ∧ Boxed w9 B3 30 (.slice (some ⟨gA, 0, none⟩) L.length cA) ∧ Below w.heap.size w w9 ∧ w9.heap[D]? = some (.deferred (some [])) from
      ⟨(hb9.block _ HH.out.1.lt).trans HH.out.1, HH.out.2.2.1.same (hb9.block _ HH.out.2.2.1.lt), (hb9.block _ HBW.out.lt).trans HBW.out, HH.out.2.2.2.trans (hb9.mono HH.out.2.2.2.size), (hb9.block _ HDd.out.2.1).trans HDd.out.2.2⟩)
    rw [HWS.out] at HR9
    clear hrow9 hb9 hbk hbw
    have hbw := HQ9.out.2.2.1.cell
    gi_wp2_with fail
    have hLI : (L.length : Int) ≤ 4398046511101 := by have := HLn.out; omega
    gi_loopw [12] (fun v12 wr => ∃ i : Nat, v12 = .int .i64 (i : Int) ∧ i ≤ L.length ∧ Hid (Dr w9 wr))
      (fun v12 wr => ((L.length : Int) - intOf v12).toNat)
    case atStart => exact ⟨0, rfl, Nat.zero_le _, Lib.hid (Dr.refl _)⟩
    case round =>
      obtain ⟨i, rfl, hi, HP⟩ := hrel
      by_cases hlt : i < L.length
      · have hltI : (i : Int) < (L.length : Int) := by omega
        have hi0 : (0 : Int) ≤ (i : Int) := by omega
        obtain ⟨y, hy⟩ : ∃ y, ys[i]? = some y := ⟨_, List.getElem?_eq_getElem (by rw [HWL.out]; exact hlt)⟩
        obtain ⟨q0, q1, q2⟩ := (HR9.out.dr HP.out).of hy
        obtain ⟨p0, p1, p2⟩ := (HQ9.out.2.1.dr HP.out).of hy
        have hbw2 := (show Boxed wr B3 30 (.slice (some ⟨gA, 0, none⟩) L.length cA) from by unfold Boxed; rw [HP.out.heap]; exact HQ9.out.2.2.1).cell
        obtain ⟨yn, yt, yp, hyn, hyt, hyp, hY⟩ := opV_lit y
        have hneq : ∀ w1, (binOp .neq 23 (.agg #[.string yn, .int .i64 yt, .int .i64 yp]) (.agg #[.string yn, .int .i64 yt, .int .i64 yp])).run Tryd.prog w1 = .ok (.bool false) w1 := fun w1 => by
          have h9 := neqO y y w1
          rw [hY] at h9
          rw [h9]
          simp
        rw [hyn] at q0 p0
        rw [hyt] at q1 p1
        rw [hyp] at q2 p2
        have HLT := Lib.hid hlt
        clear hY hyn hyt hyp hy hlt hi hbw
        gi_wp2_with fail
        refine wpIn_wide.2 ?_
        go_quiet (fail)
        have HD2 := Lib.hid (HP.out.more nq)
        clear q0 q1 q2 p0 p1 p2 hneq hbw2
        gi_wp2
        go_roundw
        case rel => exact ⟨i + 1, rfl, HLT.out, HD2⟩
        case measure =>
          have := HLT.out
          show ((L.length : Int) - ((i : Int) + 1)).toNat < ((L.length : Int) - (i : Int)).toNat
          omega
      · have ei : i = L.length := by omega
        subst ei
        have hbw2 := (show Boxed wr B3 30 (.slice (some ⟨gA, 0, none⟩) L.length cA) from by unfold Boxed; rw [HP.out.heap]; exact HQ9.out.2.2.1).cell
        have hbr2 : Boxed wr (w.heap.size + 1) 4 (.bool false) := by unfold Boxed; rw [HP.out.heap]; exact HQ9.out.1
        have hbr3 := hbr2.cell
        have hbr4 := hbr2.frozen
        have HBR := Lib.hid hbr2
        have HKd := Lib.hid (show wr.heap[D]? = some (.deferred (some [])) by rw [HP.out.heap]; exact HQ9.out.2.2.2.2)
        have HBl := Lib.hid (HQ9.out.2.2.2.1.trans (HP.out.below _))
        clear hbr2 hlt hi hbw
        gi_wp2
        have hK2 : (wr.setCell ⟨w.heap.size + 1, 0, none⟩ (.bool true)).heap[D]? = some (.deferred (some [])) := (Below.heap_setCell _ _ _ D (by
          intro e
          have h8 := HKd.out
          have h9 := HBR.out
          unfold Boxed at h9
          rw [show D = w.heap.size + 1 from e, h9] at h8
          cases h8)).trans HKd.out
        have hbx : Boxed ((wr.setCell ⟨w.heap.size + 1, 0, none⟩ (.bool true)).putObj D (.deferred none)) (w.heap.size + 1) 4 (.bool true) := (HBR.out.set (.bool true)).kept (grownBy_putObj' _ D _) (fun e => by
          have h8 := HKd.out
          have h9 := HBR.out
          unfold Boxed at h9
          rw [show D = w.heap.size + 1 from (Option.some.inj e).symm, h9] at h8
          cases h8)
        have hcx := hbx.cell
        have hBe : Below w.heap.size w ((wr.setCell ⟨w.heap.size + 1, 0, none⟩ (.bool true)).putObj D (.deferred none)) := (HBl.out.setCell (p := ⟨w.heap.size + 1, 0, none⟩) (Nat.le_succ _) _).grown (grownBy_putObj' _ D _) (by
          have := HBl.out.size
          simp [World.setCell]; omega) (fun k e => by
          cases e
          have := HDd.out.1
          have := HZ.out
          omega)
        refine ⟨by simp, .inl ⟨_, _, rfl, run_takeDeferred hK2, ?_⟩⟩
        exact ⟨.bool true, by simp [results, Tryd.results6, go_sem, hcx], rfl, hBe⟩
  case stop =>
    rintro D c pre W _ hp h _
    exact absurd (by rw [← hwas]; exact hp) h
end Go.Proofs.YtfdcponamkfcaaaDoor

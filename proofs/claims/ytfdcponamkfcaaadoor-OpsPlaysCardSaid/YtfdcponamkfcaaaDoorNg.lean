import Derived.Maps.OwnIn
import Derived.Test.YtfdcponamkfcaaaDoorNf
namespace Go.Proofs.YtfdcponamkfcaaaDoor
open Go.RowKit Ho Go.Maps Go.Shelf Go.Sort Hb
set_option linter.unusedVariables false
set_option linter.unusedSimpArgs false
attribute [local go_sem] Oper.semAt_some
/-! ### the law's all -/
theorem ownB_box {W : World} {B : Nat} {t : TypeId} {v : Value} (h : Boxed W B t v) : ownB (some B) W = v.ownBlock := by
  unfold ownB
  dsimp only
  rw [h.cell]
  cases v <;> first | rfl | (rename_i a _ _; cases a <;> rfl)
/-- an append to the slice in box B, and the store of it -/
theorem KpO.appended {W w1 : World} {n₀ B : Nat} {t : TypeId} {v v' : Value} {tmp : Obj} (hv : Boxed W B t v) (hB : B < n₀) (hn : n₀ ≤ W.heap.size) (hv1 : Boxed w1 B t v) (hgrow : (W.alloc tmp).grownBy w1 v.ownBlock)
    (hat : v'.ownBlock = v.ownBlock ∨ v'.ownBlock = some (W.alloc tmp).heap.size) : KpO n₀ (some B) W (w1.setCell ⟨B, 0, none⟩ v') := by
  have hs : W.heap.size + 1 ≤ w1.heap.size := by have := hgrow.size; simp at this; omega
  refine ⟨by simp [World.setCell]; omega, fun b o hb ho hc hne => ?_, fun b hb => ?_⟩
  · have hlt := (Array.getElem?_eq_some_iff.1 ho).1
    rw [ownB_box hv] at hne
    refine (Below.heap_setCell _ _ _ b (by show b ≠ B; omega)).trans ?_
    exact (hgrow.block b (by simp; omega) (fun e => hne e.symm)).trans ((Below.heap_alloc _ _ b hlt).trans ho)
  · rw [ownB_box (hv1.set v')] at hb
    rw [ownB_box hv]
    rcases hat with e | e
    · left; rw [← e]; exact hb
    · right
      rw [e] at hb
      simp at hb; omega
theorem KpO.alloc {n₀ B : Nat} {W : World} (hB : B < W.heap.size) (o : Obj) : KpO n₀ (some B) W (W.alloc o) :=
  KpO.grown (by simp) (fun b hb => Below.heap_alloc _ _ b hb) (fun B' e => by cases e; exact hB)
set_option maxRecDepth 100000 in
set_option maxHeartbeats 4000000 in
theorem alls_any (hsort : SortOk) {w : World} {g b1 b2 b3 N : Nat} {L : List OpV} (hT : TabAt w g b1 b2 b3 N L) (hL : GoodL L) (hK : L.length * 32 ≤ 140737488355328) :
    Calls Tryd.prog 16 #[.pointer (some ⟨g, 0, none⟩)] w fun e w' => ∃ gA c, e = .returned (.slice (some ⟨gA, 0, none⟩) L.length c) ∧ w'.ownsRow w.heap.size 23 3 (.slice (some ⟨gA, 0, none⟩) L.length c) L.length (flO (srt L)) ∧ Below w.heap.size w w' := by
  refine (callsIn_wide (n := 4)).1 ?_
  obtain ⟨i0, hi, hz0, hz1, hz2⟩ := info_parts infoO
  refine callsIn_of_wp_marks Tryd.func16 rfl trivial ?_ rfl
  simp only [Tryd.ntmps16, List.size_toArray, List.length_cons, List.length_nil, Nat.reduceAdd, Nat.reduceSub, Array.replicate_succ, Array.replicate_zero, List.push_toArray, List.append_toArray, List.nil_append, List.cons_append]
  gi_wp2_with (refine ⟨trivial, ?_⟩; gi_at_call 22; refine (callsIn_wide.2 (all_in _ _)).mono ?_; rintro e w' ⟨rfl, rfl⟩)
  have bO := Boxed.new w 30 (.slice none 0 0)
  have bN := Boxed.new (w.alloc (.cells #[.slice none 0 0] 30)) 31 (.pointer (some ⟨g, 0, none⟩))
  rw [World.size_alloc] at bN
  have hB0 : Below w.heap.size w ((w.alloc (.cells #[.slice none 0 0] 30)).alloc (.cells #[.pointer (some ⟨g, 0, none⟩)] 31)) := ((Below.refl _ w).alloc (Nat.le_refl _) _).alloc (by simp) _
  obtain ⟨w2, hw2⟩ : ∃ w2, (w.alloc (.cells #[.slice none 0 0] 30)).alloc (.cells #[.pointer (some ⟨g, 0, none⟩)] 31) = w2 := ⟨_, rfl⟩
  have bO2 : Boxed w2 w.heap.size 30 (.slice none 0 0) := by rw [← hw2]; exact bO.alloc _
  have hs2 : w2.heap.size = w.heap.size + 2 := by rw [← hw2]; simp
  rw [hw2] at bN hB0 ⊢
  have hsl := hL.srt_len
  refine wpIn_rangeFunc_ownH rfl (by omega) (gf := 37) (lb := #[.pointer (some ⟨w.heap.size + 1, 0, none⟩)]) rfl trivial (enters_of Tryd.func37 (by kernel_rfl) rfl)
    (all_stops hsort 3 (by omega) (w.heap.size + 1) g b1 b2 b3 N (some w.heap.size) L hL hK w2 bN.cell (hT.below' hB0) (fun B e => by cases e; omega) (fun b e => by rw [ownB_box bO2] at e; cases e)) KpO.t (KpO.b (fun B e => by cases e; omega)) (Below.refl _ _) (fun _ => rfl)
    (fun pre W => (∃ v, Boxed W w.heap.size 30 v ∧ W.ownsRow w.heap.size 23 3 v pre.length (flO pre) ∧ pre.length ≤ L.length) ∧ Below w.heap.size w W)
    (fun _ _ _ => False)
    (OwnFrom.and (Own.from (holdsRow_own w.heap.size w.heap.size 30 23 3 (fun pre : List OpV => pre.length) (fun pre => flO pre) (fun pre _ => pre.length ≤ L.length)) _) (ownFrom_below (Nat.le_refl _) (by omega)))
    (fun _ _ _ _ _ hs _ _ => hs)
    ⟨⟨_, bO2, ⟨rfl, .inl ⟨rfl, rfl⟩⟩, Nat.zero_le _⟩, hB0⟩
    (fun x a' W => ∃ Bx, BoxO W Bx x ∧ a' = { tmps := #[.pointer (some ⟨g, 0, none⟩), undef, .slice none 0 0, .pointer (some ⟨w.heap.size, 0, none⟩), .pointer (some ⟨Bx, 0, none⟩), .pointer (some ⟨g, 0, none⟩), .func (.func 37) #[] #[.pointer (some ⟨w.heap.size + 1, 0, none⟩)], opV x, undef, undef, undef, undef, undef], defers := [] })
    (fun x a' _ W W' row hs hg hr => by obtain ⟨Bx, hb, rfl⟩ := hs; exact ⟨Bx, hb.kept hg (fun r e => (hr r e).2), rfl⟩) ?assign ?body ?done ?stop
  case assign =>
    rintro l pre x W K ⟨⟨v, hv, hr, hle⟩, hB⟩ hK
    have hKK := hK { tmps := #[.pointer (some ⟨g, 0, none⟩), undef, .slice none 0 0, .pointer (some ⟨w.heap.size, 0, none⟩), .pointer (some ⟨W.heap.size, 0, none⟩), .pointer (some ⟨g, 0, none⟩), .func (.func 37) #[] #[.pointer (some ⟨w.heap.size + 1, 0, none⟩)], opV x, undef, undef, undef, undef, undef], defers := [] } (W.alloc (.cells (encO x).toArray 23))
      ((KeepsOthers.alloc _ _).from _) (KpO.alloc hv.lt _) ⟨⟨v, hv.alloc _, hr.alloc _, hle⟩, hB.alloc hB.size _⟩ ⟨W.heap.size, World.alloc_heap_new W _, rfl⟩
    clear hK hv hr hB
    rw [opV_enc] at *
    unfold encO at *
    obtain ⟨nm, ty, py⟩ := x
    dsimp only at *
    generalize (⟨nm.toArray⟩ : ByteArray) = nm at *
    gi_wp2
    exact hKK
  case body =>
    rintro l pre x a' W hl ⟨r, hr⟩ ⟨⟨v, hv, hrow, hle⟩, hB⟩ ⟨Bx, bX, rfl⟩ hlt
    have hc := hv.cell
    obtain ⟨q0, q1, q2⟩ := bX.cells
    have HX := Lib.hid (show flO (pre ++ [x]) = flO pre ++ encO x from flO_snoc pre x)
    obtain ⟨xn, xt, xp⟩ := x
    rw [opV_enc]
    unfold encO at *
    dsimp only at *
    generalize (⟨xn.toArray⟩ : ByteArray) = nm at *
    rw [hsl] at hlt
    have hlw : w2.heap.size ≤ W.heap.size := Nat.le_trans hl (Nat.le_of_lt (Array.getElem?_eq_some_iff.1 hr).1)
    have HLW := Lib.hid (And.intro hs2 hlw)
    clear hs2 hlw hw2 hsl
    gi_wp2_with (gi_at_builtin; refine wpListIn_append_own_at _ rfl _ _ 30 rfl w.heap.size 23 i0 (.agg #[.string ⟨#[]⟩, .int .i64 0, .int .i64 0]) 3 32 Tryd.underlying30 hi hz0 hz1 hz2 rfl (by decide) _ _ _ rfl (hrow.alloc _) ⟨W.heap.size, 0, none⟩ 1 1 [.string nm, .int .i64 xt, .int .i64 xp] rfl rfl (cells_new3 _ _ _ _ _) (by simp [Value.oneCell']) (by unfold maxLen; omega) (by omega) (by have := hB.size; simp; omega) ?_; intro v' w1 hown' hgrow _ hat; obtain ⟨g', cap', rfl⟩ := ownsRow_succ hown'; obtain ⟨hv1, hv2, hr2, hk2, hb2⟩ := hv.appended (by decide) hrow hB.size (Nat.le_refl _) hown' hgrow; have hc1 := hv1.cell; have hf1 := hv1.frozen; have HAT := Lib.hid (KpO.appended (n₀ := w2.heap.size) hv (by have := HLW.out.1; omega) HLW.out.2 hv1 hgrow hat); clear hat)
    refine ⟨hk2.from _, HAT.out, ⟨_, hv2, ?_, by simp; omega⟩, hB.trans hb2⟩
    rw [HX.out]
    have e : (pre ++ [(⟨xn, xt, xp⟩ : OpV)]).length = pre.length + 1 := by simp
    rw [e]
    exact hr2
  case done =>
    rintro D ys W hD rfl ⟨⟨v, hv, hrow, hle⟩, hB⟩ hK
    have hc := hv.cell
    rw [hsl] at hrow
    have hform : ∃ gA c, v = .slice (some ⟨gA, 0, none⟩) L.length c := by
      rcases hrow.2 with ⟨h1, h2⟩ | ⟨g', cap, cur, h1, _⟩
      · have := List.length_pos_iff.2 hL.ne; omega
      · exact ⟨_, _, h1⟩
    obtain ⟨gA, c, rfl⟩ := hform
    have HH := Lib.hid (And.intro hrow (And.intro hB hD))
    have HKK := Lib.hid hK
    clear hrow hB hw2
    gi_wp2
    refine ⟨by simp, .inl ⟨_, _, rfl, run_takeDeferred HKK.out, ?_⟩⟩
    exact ⟨_, results_tmp rfl _ _ _, gA, c, rfl, ownsRow_putObj HH.out.1 _ HKK.out rfl, HH.out.2.1.trans (belowK_b (w := w) (Nat.le_refl _) W D _ _ (by have := HH.out.2.2; omega) HKK.out rfl rfl)⟩
  case stop =>
    rintro D c pre W _ _ h _
    exact h.elim
end Go.Proofs.YtfdcponamkfcaaaDoor

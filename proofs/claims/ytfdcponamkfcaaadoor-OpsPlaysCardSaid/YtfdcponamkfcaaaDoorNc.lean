import Derived.Test.YtfdcponamkfcaaaDoorNb
namespace Go.Proofs.YtfdcponamkfcaaaDoor
open Go.RowKit Ho Go.Maps Go.Shelf Go.Sort
set_option linter.unusedVariables false
set_option linter.unusedSimpArgs false
attribute [local go_sem] Oper.semAt_some
/-! ### slices.AppendSeq of operators -/
def encO (x : OpV) : List Value := [.string ⟨x.n.toArray⟩, .int .i64 x.t, .int .i64 x.p]
def flO (xs : List OpV) : List Value := xs.flatMap encO
theorem opV_enc (x : OpV) : opV x = .agg (encO x).toArray := rfl
theorem flO_length (xs : List OpV) : (flO xs).length = xs.length * 3 := by
  induction xs with
  | nil => rfl
  | cons x xs ih => simp [flO] at ih ⊢; rw [ih]; simp [encO]; omega
theorem flO_snoc (xs : List OpV) (x : OpV) : flO (xs ++ [x]) = flO xs ++ encO x := by simp [flO]
theorem infoO : (Tryd.prog.info? 23).map (fun i => (i.zero, i.size, i.bytes)) = some (some (.agg #[.string ⟨#[]⟩, .int .i64 0, .int .i64 0]), 3, 32) := by kernel_rfl
/-- a block of one operator -/
def BoxO (W : World) (B : Nat) (x : OpV) : Prop := W.heap[B]? = some (.cells (encO x).toArray 23 (0, 0))
theorem BoxO.lt {W : World} {B : Nat} {x : OpV} (h : BoxO W B x) : B < W.heap.size := (Array.getElem?_eq_some_iff.1 h).1
theorem BoxO.kept {W W' : World} {B : Nat} {x : OpV} {row : Option Nat} (h : BoxO W B x) (hg : W.grownBy W' row) (hr : ∀ r, row = some r → ∃ o : Obj, W.heap[r]? = some o ∧ o.isCells = false) : BoxO W' B x := by
  refine (hg.block B h.lt (fun e => ?_)).trans h
  obtain ⟨o, ho, hc⟩ := hr B e.symm
  rw [show W.heap[B]? = _ from h] at ho; cases ho; cases hc
theorem BoxO.cells {W : World} {B : Nat} {x : OpV} (h : BoxO W B x) : W.cell? ⟨B, 0, none⟩ = some (.string ⟨x.n.toArray⟩) ∧ W.cell? ⟨B, 1, none⟩ = some (.int .i64 x.t) ∧ W.cell? ⟨B, 2, none⟩ = some (.int .i64 x.p) := by
  refine ⟨?_, ?_, ?_⟩
  · rw [cell_of_row W B 0 _ _ (0, 0) h]; rfl
  · rw [cell_of_row W B 1 _ _ (0, 0) h]; rfl
  · rw [cell_of_row W B 2 _ _ (0, 0) h]; rfl
theorem cells_new3 (w : World) (a b c : Value) (t : TypeId) : ∀ j u, [a, b, c][j]? = some u → (w.alloc (.cells #[a, b, c] t)).cell? ((⟨w.heap.size, 0, none⟩ : Addr).add j) = some u := by
  intro j u hj
  have e : (⟨w.heap.size, 0, none⟩ : Addr).add j = ⟨w.heap.size, j, none⟩ := by unfold Addr.add; split <;> simp_all
  rw [e, cell_of_row _ w.heap.size j _ t (0, 0) (World.alloc_heap_new w _)]
  simpa using hj
set_option maxRecDepth 100000 in
set_option maxHeartbeats 2000000 in
theorem appendSeq_in (F : Fence) (n : Nat) (h38 : F.fn 38) (hro : F.round = none) (hn : 2 ≤ n) (g : Nat) (lb : Array Value) (hFg : F.fn g) (eg : ∀ args w, (callFunc g args).run Tryd.prog w = .ok (.enter g args) w)
    {S Sp : List OpV → Prop} {N : Nat} {n₀ k0 c0 : Nat} {A : Option Addr} {xs0 : List Value} {w : World} (hrow : w.ownsRow n₀ 23 3 (.slice A k0 c0) k0 xs0) (hB0 : n₀ ≤ w.heap.size) (hN : (k0 + N) * 32 ≤ 140737488355328)
    (hseq : SeqStops F (n - 1) Tryd.prog g lb opV S Sp N w) :
    CallsIn F n Tryd.prog 38 #[.slice A k0 c0, .func (.func g) #[] lb] w fun e W' => ∃ v xs, e = .returned v ∧ S xs ∧ xs.length ≤ N ∧ W'.ownsRow n₀ 23 3 v (k0 + xs.length) (xs0 ++ flO xs) ∧ Below n₀ w W' := by
  have h1 : 1 ≤ n := by omega
  obtain ⟨i0, hi, hz0, hz1, hz2⟩ := info_parts infoO
  refine callsIn_of_wp_marks Tryd.func38 rfl h38 ?_ hro
  simp only [Tryd.ntmps38, List.size_toArray, List.length_cons, List.length_nil, Nat.reduceAdd, Nat.reduceSub, Array.replicate_succ, Array.replicate_zero, List.push_toArray, List.append_toArray, List.nil_append, List.cons_append]
  gi_wp2
  have bO := Boxed.new w 30 (.slice A k0 c0)
  have hB1 : Below w.heap.size w (w.alloc (.cells #[.slice A k0 c0] 30)) := (Below.refl _ w).alloc (Nat.le_refl _) _
  have hrow1 := hrow.alloc (.cells #[.slice A k0 c0] 30)
  refine wpIn_rangeFunc_ownH hro h1 (gf := g) (lb := lb) rfl hFg eg (seqStopsA_iff.1 (seqStops_iff.1 hseq)) walksK_t walksK_b hB1 (fun _ => rfl)
    (fun pre W => (∃ v, Boxed W w.heap.size 30 v ∧ W.ownsRow n₀ 23 3 v (k0 + pre.length) (xs0 ++ flO pre) ∧ pre.length ≤ N) ∧ Below n₀ w W)
    (fun _ _ _ => False)
    (OwnFrom.and (Own.from (holdsRow_own n₀ w.heap.size 30 23 3 (fun pre : List OpV => k0 + pre.length) (fun pre => xs0 ++ flO pre) (fun pre _ => pre.length ≤ N)) _) (ownFrom_below hB0 (by simp; omega)))
    (fun _ _ _ _ _ hs _ _ => hs)
    ⟨⟨_, bO, by simpa [flO] using hrow1, Nat.zero_le _⟩, hB1.mono hB0⟩
    (fun x a' W => ∃ Bx, BoxO W Bx x ∧ a' = { tmps := #[.slice A k0 c0, .func (.func g) #[] lb, .pointer (some ⟨w.heap.size, 0, none⟩), undef, .slice none 0 0, .pointer (some ⟨Bx, 0, none⟩), .func (.func g) #[] lb, opV x, undef, undef, undef, undef, undef], defers := [] })
    (fun x a' _ W W' row hs hg hr => by obtain ⟨Bx, hb, rfl⟩ := hs; exact ⟨Bx, hb.kept hg (fun r e => (hr r e).2), rfl⟩) ?assign ?body ?done ?stop
  case assign =>
    rintro l pre x W K ⟨⟨v, hv, hr, hle⟩, hB⟩ hK
    have hKK := hK { tmps := #[.slice A k0 c0, .func (.func g) #[] lb, .pointer (some ⟨w.heap.size, 0, none⟩), undef, .slice none 0 0, .pointer (some ⟨W.heap.size, 0, none⟩), .func (.func g) #[] lb, opV x, undef, undef, undef, undef, undef], defers := [] } (W.alloc (.cells (encO x).toArray 23))
      ((KeepsOthers.alloc _ _).from _) (KeepsWalks.alloc _ _) ⟨⟨v, hv.alloc _, hr.alloc _, hle⟩, hB.alloc (Nat.le_trans hB0 hB.size) _⟩ ⟨W.heap.size, World.alloc_heap_new W _, rfl⟩
    clear hK hv hr hB
    rw [opV_enc] at *
    unfold encO at *
    obtain ⟨nm, ty, py⟩ := x
    dsimp only at *
    generalize (⟨nm.toArray⟩ : ByteArray) = nm at *
    gi_wp2
    exact hKK
  case body =>
    rintro l pre x a' W hl ⟨r, hr⟩ ⟨⟨v, hv, hrow, hle⟩, hB⟩ ⟨Bx, bX, rfl⟩ hlt
    have hc := hv.cell
    obtain ⟨q0, q1, q2⟩ := bX.cells
    have HX := Lib.hid (show flO (pre ++ [x]) = flO pre ++ encO x from flO_snoc pre x)
    obtain ⟨xn, xt, xp⟩ := x
    rw [opV_enc]
    unfold encO at *
    dsimp only at *
    generalize (⟨xn.toArray⟩ : ByteArray) = nm at *
    gi_wp2_with (gi_at_builtin; refine wpListIn_append_own _ rfl _ _ 30 rfl n₀ 23 i0 (.agg #[.string ⟨#[]⟩, .int .i64 0, .int .i64 0]) 3 32 Tryd.underlying30 hi hz0 hz1 hz2 rfl (by decide) _ _ _ rfl (hrow.alloc _) ⟨W.heap.size, 0, none⟩ 1 1 [.string nm, .int .i64 xt, .int .i64 xp] rfl rfl (cells_new3 _ _ _ _ _) (by simp [Value.oneCell']) (by unfold maxLen; omega) (by omega) (by have := hB.size; simp; omega) ?_; intro v' w1 hown' hgrow _; obtain ⟨g', cap', rfl⟩ := ownsRow_succ hown'; obtain ⟨hv1, hv2, hr2, hk2, hb2⟩ := hv.appended (by decide) hrow (Nat.le_trans hB0 hB.size) hB0 hown' hgrow; have hc1 := hv1.cell; have hf1 := hv1.frozen)
    refine ⟨hk2.from _, ?_, ⟨_, hv2, ?_, by simp; omega⟩, hB.trans hb2⟩
    · exact ⟨hk2.size, fun k o ho hw => hk2.same k o ho (Obj.not_cells_of_walk hw)⟩
    · rw [HX.out, ← List.append_assoc]
      have e : k0 + (pre ++ [(⟨xn, xt, xp⟩ : OpV)]).length = k0 + pre.length + 1 := by simp; omega
      rw [e]
      exact hr2
  case done =>
    rintro D ys W hD hS ⟨⟨v, hv, hrow, hle⟩, hB⟩ hK
    have hc := hv.cell
    gi_wp2
    refine ⟨by simp, .inl ⟨_, _, rfl, run_takeDeferred hK, ?_⟩⟩
    exact ⟨_, results_tmp rfl _ _ _, v, ys, rfl, hS, hle, ownsRow_putObj hrow _ hK rfl, hB.trans (belowK_b (w := w) hB0 W D _ _ (by simp at hD; omega) hK rfl rfl)⟩
  case stop =>
    rintro D c pre W _ _ h _
    exact h.elim
end Go.Proofs.YtfdcponamkfcaaaDoor

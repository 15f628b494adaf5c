import Derived.Test.YtgfeainpeplphaaDoorJj
import Derived.Test.YtgfeainpeplphaaDoorJm
namespace Go.Proofs.YtgfeainpeplphaaDoor
open Go.RowKit Hb Ht
set_option linter.unusedVariables false
set_option linter.unusedSimpArgs false
attribute [local go_sem] Oper.semAt_some
/-! ### dcg.Body -/
def zeroTV : Value := .agg #[.int .i64 0, .string ⟨#[]⟩, .string ⟨#[]⟩, .int .u64 0, .int .i64 0, .slice none 0 0]
def BodyR (w : World) (r : Except Tm (Tm × Int)) (e : Ending) (w' : World) : Prop :=
  Below w.heap.size w w' ∧ match r with
    | .ok (g, n) => ∃ sg, e = .returned (.tuple #[valT g sg, .int .i64 n, .nilIface]) ∧ TOwn w' g sg w.heap.size w'.heap.size
    | .error b => ∃ bb, e = .returned (.tuple #[zeroTV, .int .i64 0, .iface 82 (.pointer (some ⟨bb, 0, none⟩))]) ∧ BallAt w' bb b
theorem BodyR.mkOk {w w' : World} {g : Tm} {n : Int} {e : Ending} {sg : Value} (hb : Below w.heap.size w w') (he : e = .returned (.tuple #[valT g sg, .int .i64 n, .nilIface])) (ht : TOwn w' g sg w.heap.size w'.heap.size) : BodyR w (.ok (g, n)) e w' := ⟨hb, sg, he, ht⟩
theorem BodyR.mkBad {w w' : World} {b : Tm} {e : Ending} {bb : Nat} (hb : Below w.heap.size w w') (he : e = .returned (.tuple #[zeroTV, .int .i64 0, .iface 82 (.pointer (some ⟨bb, 0, none⟩))])) (ht : BallAt w' bb b) : BodyR w (.error b) e w' := ⟨hb, bb, he, ht⟩
/-- a block of one cell holds no part of a term -/
theorem TAtP.avoid {w : World} {E : Nat} {x : Value} {ty : TypeId} {q : Nat × Nat} (hE : w.heap[E]? = some (.cells #[x] ty q)) (t : Tm) : ∀ {P : Nat → Prop} {sl : Value}, TAtP w P t sl → TAtP w (fun b => P b ∧ b ≠ E) t sl := by
  refine Tm.ind (p := fun t => ∀ {P : Nat → Prop} {sl : Value}, TAtP w P t sl → TAtP w (fun b => P b ∧ b ≠ E) t sl) (fun k n m b v l ih P sl h => ?_) t
  rw [TAtP.iff] at h ⊢
  obtain ⟨A, c, h1, h2, h3, h4, h5, h6⟩ := h
  refine ⟨A, c, h1, h2, h3, h4, h5, fun hne => ?_⟩
  obtain ⟨g, o, e, hg, hs⟩ := h6 hne
  refine ⟨g, o, e, ⟨hg, fun e2 => ?_⟩, fun i a ha => ?_⟩
  · subst e2
    obtain ⟨a, ha⟩ := List.exists_mem_of_ne_nil _ hne
    obtain ⟨i, hi, hia⟩ := List.getElem_of_mem ha
    obtain ⟨sl', hc, _⟩ := hs i a (by rw [← hia]; exact List.getElem?_eq_getElem hi)
    have h9 := hc 1 (by omega)
    rw [cell_of_row w g (o + i * 6 + 1) _ _ q hE] at h9
    rw [Array.getElem?_eq_none (by simp)] at h9
    simp [cells6] at h9
  · obtain ⟨sl', hc, ht⟩ := hs i a ha
    exact ⟨sl', hc, ih a (List.mem_of_getElem? ha) ht⟩
theorem bodyT_bad {t f d e : Tm} {nx : Int} (h : mkB t f d nx = .error e) : bodyT t f d nx = .error e := by unfold bodyT; rw [h]
theorem bodyT_big {t f d g : Tm} {nx n : Int} (h : mkB t f d nx = .ok (g, n)) (hz : 4000 < nodes g) : bodyT t f d nx = .error nodesT := by unfold bodyT; rw [h]; simp [whole, hz]
theorem bodyT_fit {t f d g : Tm} {nx n : Int} (h : mkB t f d nx = .ok (g, n)) (hz : ¬ 4000 < nodes g) : bodyT t f d nx = .ok (g, n) := by unfold bodyT; rw [h]; simp [whole, hz]
/-- what is done at the door looks at the results alone -/
theorem leaves_congr {P : Program} {fn : Func} {t1 t2 : Array Value} {R : Ending → World → Prop} (h : ∀ w, (results fn t1).run P w = (results fn t2).run P w) : ∀ (ds : List Deferred) (u : FrameMode) (w : World), Leaves P fn t1 R ds u w → Leaves P fn t2 R ds u w := by
  intro ds
  induction ds with
  | nil =>
    intro u w hl
    cases u with
    | run => exact hl
    | panicking c => exact hl
    | returning =>
      obtain ⟨v, hr, hR⟩ := hl
      exact ⟨v, by rw [← h w]; exact hr, hR⟩
  | cons d ds ih =>
    rintro u w ⟨hu, fv, cap, f, args, ht, hi, hc⟩
    refine ⟨hu, fv, cap, f, args, ht, hi, hc.mono (fun e u' w' hx => ?_)⟩
    cases e with
    | returned v => exact ih _ _ hx
    | panicked c => exact ih _ _ hx
    | outgrown => exact hx
theorem hqBody {R : Ending → World → Prop} {i : Nat} (hi : 10 < i) {v : Value} (c : List PanicEntry) (a : Act) (w : World) (h : bodyPostD Tryd.prog Tryd.f16 R (.panic c) (a.put (some i) v) w) : bodyPostD Tryd.prog Tryd.f16 R (.panic c) a w := by
  refine leaves_congr (t1 := (a.put (some i) v).tmps) (fun w2 => ?_) _ _ _ h
  have h8 : i ≠ 8 := by omega
  have h9 : i ≠ 9 := by omega
  have h10 : i ≠ 10 := by omega
  simp [results, Tryd.results16, Act.put, Array.getElem?_setIfInBounds, Array.getD_eq_getD_getElem?, h8, h9, h10]
theorem BallAt.caught {w : World} {bb E : Nat} {t : Tm} {x : Value} {ty : TypeId} (h : BallAt w bb t) (hE : w.heap[E]? = some (.cells #[x] ty (0, 0))) (u : Value) : BallAt (w.setCell ⟨E, 0, none⟩ u) bb t := by
  obtain ⟨sl, h1, h2⟩ := h
  have hne : bb ≠ E := by
    rintro rfl
    rw [hE] at h1
    injection h1 with h1
    injection h1 with h1
    have := congrArg Array.size h1
    simp [cells6] at this
  refine ⟨sl, (Below.heap_setCell _ _ _ bb hne).trans h1, TAtP.keep _ (TAtP.avoid hE t h2) (fun b hb => ⟨?_, Below.heap_setCell _ _ _ b hb.2⟩)⟩
  have := hb.1
  simp [World.setCell]
  exact this
set_option maxRecDepth 100000 in
set_option maxHeartbeats 16000000 in
theorem Body_err {w0 w : World} {t f d : Tm} {st sf sd : Value} {nx : Int} (h1 : TAt w w.heap.size t st) (h2 : TAt w w.heap.size f sf) (h3 : TAt w w.heap.size d sd) (hU : UOk w0 w) {c : Int} (hcs : checksP [t, f, d] = c) (hc : c ≠ 0) : Calls Tryd.prog 16 #[valT t st, valT f sf, valT d sd, .int .i64 nx] w fun e w' => e = .returned (.tuple #[zeroTV, .int .i64 0, .iface 32 (.int .i64 c)]) ∧ Below w.heap.size w w' := by
  obtain ⟨k1, n1, m1, b1, v1, ts1, nb1, mb1, A1, c1, hT1, rfl, hnb1, hmb1, hl1, hc1, hx1, hv1, hs1, hq1⟩ := h1.letters
  subst hT1
  obtain ⟨L1, hL1⟩ : ∃ L, ts1.length = L := ⟨_, rfl⟩
  rw [hv1]
  rw [hL1] at h1 hv1 ⊢
  obtain ⟨k2, n2, m2, b2, v2, ts2, nb2, mb2, A2, c2, hT2, rfl, hnb2, hmb2, hl2, hc2, hx2, hv2, hs2, hq2⟩ := h2.letters
  subst hT2
  obtain ⟨L2, hL2⟩ : ∃ L, ts2.length = L := ⟨_, rfl⟩
  rw [hv2]
  rw [hL2] at h2 hv2 ⊢
  obtain ⟨k3, n3, m3, b3, v3, ts3, nb3, mb3, A3, c3, hT3, rfl, hnb3, hmb3, hl3, hc3, hx3, hv3, hs3, hq3⟩ := h3.letters
  subst hT3
  obtain ⟨L3, hL3⟩ : ∃ L, ts3.length = L := ⟨_, rfl⟩
  rw [hv3]
  rw [hL3] at h3 hv3 ⊢
  obtain ⟨W1, hW1⟩ : ∃ W, w.alloc (.cells #[.int .i64 k1, .string nb1, .string mb1, .int .u64 b1, .int .i64 v1, .slice A1 L1 c1] 25) = W := ⟨_, rfl⟩
  obtain ⟨W2, hW2⟩ : ∃ W, W1.alloc (.cells #[.int .i64 k2, .string nb2, .string mb2, .int .u64 b2, .int .i64 v2, .slice A2 L2 c2] 25) = W := ⟨_, rfl⟩
  obtain ⟨W3, hW3⟩ : ∃ W, W2.alloc (.cells #[.int .i64 k3, .string nb3, .string mb3, .int .u64 b3, .int .i64 v3, .slice A3 L3 c3] 25) = W := ⟨_, rfl⟩
  obtain ⟨W4, hW4⟩ : ∃ W, W3.alloc (.cells #[.int .i64 nx] 3) = W := ⟨_, rfl⟩
  obtain ⟨W5, hW5⟩ : ∃ W, W4.alloc (.cells #[.int .i64 0, .string ⟨#[]⟩, .string ⟨#[]⟩, .int .u64 0, .int .i64 0, .slice none 0 0] 25) = W := ⟨_, rfl⟩
  obtain ⟨W6, hW6⟩ : ∃ W, W5.alloc (.cells #[.nilIface] 29) = W := ⟨_, rfl⟩
  obtain ⟨W7, hW7⟩ : ∃ W, W6.alloc (.cells #[.int .i64 k1, .string nb1, .string mb1, .int .u64 b1, .int .i64 v1, .slice A1 L1 c1, .int .i64 k2, .string nb2, .string mb2, .int .u64 b2, .int .i64 v2, .slice A2 L2 c2, .int .i64 k3, .string nb3, .string mb3, .int .u64 b3, .int .i64 v3, .slice A3 L3 c3] 25) = W := ⟨_, rfl⟩
  have d1 : Below w.heap.size w W1 := by rw [← hW1]; exact (Below.refl _ _).alloc (Nat.le_refl _) _
  have s1 : W1.heap.size = w.heap.size + 1 := by rw [← hW1]; simp
  have X1 : TBox W1 w.heap.size (.mk k1 n1 m1 b1 v1 ts1) (.slice A1 L1 c1) := by rw [← hW1]; exact TBox.new w hnb1 hmb1
  have d2 : Below W1.heap.size W1 W2 := by rw [← hW2]; exact (Below.refl _ _).alloc (Nat.le_refl _) _
  have s2 : W2.heap.size = W1.heap.size + 1 := by rw [← hW2]; simp
  have X2 : TBox W2 W1.heap.size (.mk k2 n2 m2 b2 v2 ts2) (.slice A2 L2 c2) := by rw [← hW2]; exact TBox.new W1 hnb2 hmb2
  have d3 : Below W2.heap.size W2 W3 := by rw [← hW3]; exact (Below.refl _ _).alloc (Nat.le_refl _) _
  have s3 : W3.heap.size = W2.heap.size + 1 := by rw [← hW3]; simp
  have X3 : TBox W3 W2.heap.size (.mk k3 n3 m3 b3 v3 ts3) (.slice A3 L3 c3) := by rw [← hW3]; exact TBox.new W2 hnb3 hmb3
  have d4 : Below W3.heap.size W3 W4 := by rw [← hW4]; exact (Below.refl _ _).alloc (Nat.le_refl _) _
  have s4 : W4.heap.size = W3.heap.size + 1 := by rw [← hW4]; simp
  have X4 : W4.heap[W3.heap.size]? = some (.cells #[.int .i64 nx] 3 (0, 0)) := by rw [← hW4]; exact heap_alloc_new W3 _
  have d5 : Below W4.heap.size W4 W5 := by rw [← hW5]; exact (Below.refl _ _).alloc (Nat.le_refl _) _
  have s5 : W5.heap.size = W4.heap.size + 1 := by rw [← hW5]; simp
  have X5 : TBox W5 W4.heap.size zeroT (.slice none 0 0) := by rw [← hW5]; exact heap_alloc_new W4 _
  have d6 : Below W5.heap.size W5 W6 := by rw [← hW6]; exact (Below.refl _ _).alloc (Nat.le_refl _) _
  have s6 : W6.heap.size = W5.heap.size + 1 := by rw [← hW6]; simp
  have X6 : W6.heap[W5.heap.size]? = some (.cells #[.nilIface] 29 (0, 0)) := by rw [← hW6]; exact heap_alloc_new W5 _
  have d7 : Below W6.heap.size W6 W7 := by rw [← hW7]; exact (Below.refl _ _).alloc (Nat.le_refl _) _
  have s7 : W7.heap.size = W6.heap.size + 1 := by rw [← hW7]; simp
  have X7 : W7.heap[W6.heap.size]? = some (.cells #[.int .i64 k1, .string nb1, .string mb1, .int .u64 b1, .int .i64 v1, .slice A1 L1 c1, .int .i64 k2, .string nb2, .string mb2, .int .u64 b2, .int .i64 v2, .slice A2 L2 c2, .int .i64 k3, .string nb3, .string mb3, .int .u64 b3, .int .i64 v3, .slice A3 L3 c3] 25 (0, 0)) := by rw [← hW7]; exact heap_alloc_new W6 _
  replace X1 := X1.below d2
  replace X1 := X1.below d3
  replace X1 := X1.below d4
  replace X1 := X1.below d5
  replace X1 := X1.below d6
  replace X1 := X1.below d7
  replace X2 := X2.below d3
  replace X2 := X2.below d4
  replace X2 := X2.below d5
  replace X2 := X2.below d6
  replace X2 := X2.below d7
  replace X3 := X3.below d4
  replace X3 := X3.below d5
  replace X3 := X3.below d6
  replace X3 := X3.below d7
  replace X4 := (d5.block _ (by omega)).trans X4
  replace X4 := (d6.block _ (by omega)).trans X4
  replace X4 := (d7.block _ (by omega)).trans X4
  replace X5 := X5.below d6
  replace X5 := X5.below d7
  replace X6 := (d7.block _ (by omega)).trans X6
  have hb7 : Below w.heap.size w W7 := d1.trans ((d2.trans ((d3.trans ((d4.trans ((d5.trans ((d6.trans ((d7).mono (by omega))).mono (by omega))).mono (by omega))).mono (by omega))).mono (by omega))).mono (by omega))
  have hsz7 : W7.heap.size = w.heap.size + 1 + 1 + 1 + 1 + 1 + 1 + 1 := by omega
  have hrow : RowP W7 (fun b => b < w.heap.size) (some ⟨W6.heap.size, 0, none⟩) 3 [((.mk k1 n1 m1 b1 v1 ts1 : Tm), Value.slice A1 L1 c1), ((.mk k2 n2 m2 b2 v2 ts2 : Tm), Value.slice A2 L2 c2), ((.mk k3 n3 m3 b3 v3 ts3 : Tm), Value.slice A3 L3 c3)] := rowP_at X7 (by rw [← hnb1, ← hmb1, ← hnb2, ← hmb2, ← hnb3, ← hmb3]; rfl) rfl (mem3 (TAtP.below h1 hb7 (fun b hb => hb)) (TAtP.below h2 hb7 (fun b hb => hb)) (TAtP.below h3 hb7 (fun b hb => hb)))
  have hck := dcheck_any (w0 := w0) (c := 3) hrow (fun b hb => Nat.lt_of_lt_of_le hb hb7.size) (by unfold maxArgs; omega) (Nat.le_refl _) (hU.below hb7)
  rw [s6, s5, s4, s3, s2, s1] at X7
  rw [s5, s4, s3, s2, s1] at X6
  rw [s4, s3, s2, s1] at X5
  rw [s3, s2, s1] at X4
  rw [s2, s1] at X3
  rw [s1] at X2
  rw [s6, s5, s4, s3, s2, s1] at hck
  obtain ⟨x0, x1, x2, x3, x4, x5⟩ := X1.cells hnb1 hmb1
  obtain ⟨y0, y1, y2, y3, y4, y5⟩ := X2.cells hnb2 hmb2
  obtain ⟨z0, z1, z2, z3, z4, z5⟩ := X3.cells hnb3 hmb3
  have HX := Lib.hid (And.intro X1 (And.intro X2 (And.intro X3 (And.intro X4 (And.intro X5 X6)))))
  have HM := Lib.hid (And.intro (And.intro hnb1 hmb1) (And.intro (And.intro hnb2 hmb2) (And.intro hnb3 hmb3)))
  have HT := Lib.hid (And.intro h1 (And.intro h2 h3))
  have HB := Lib.hid (And.intro hb7 hsz7)
  have HC := Lib.hid hck
  have HU := Lib.hid hU
  have HWe := Lib.hid hW7
  subst hW1 hW2 hW3 hW4 hW5 hW6
  rw [← HWe.out] at x0 x1 x2 x3 x4 x5 y0 y1 y2 y3 y4 y5 z0 z1 z2 z3 z4 z5 HC
  clear h1 h2 h3 hU hck hrow hb7 hsz7 hW7 X1 X2 X3 X4 X5 X6 X7 s1 s2 s3 s4 s5 s6 s7 d1 d2 d3 d4 d5 d6 d7 hnb1 hmb1 hnb2 hmb2 hnb3 hmb3 hL1 hL2 hL3 hv1 hv2 hv3 hs1 hs2 hs3 hq1 hq2 hq3
  rw [show checksP ([((.mk k1 n1 m1 b1 v1 ts1 : Tm), Value.slice A1 L1 c1), ((.mk k2 n2 m2 b2 v2 ts2 : Tm), Value.slice A2 L2 c2), ((.mk k3 n3 m3 b3 v3 ts3 : Tm), Value.slice A3 L3 c3)].map (·.1)) = c from hcs, errV, if_neg hc] at HC
  clear hcs
  go_enter_defers Tryd.func16, Tryd.ntmps16
  go_wp2_with (go_at_call 27; (with_reducible refine HC.out.mono ?_); rintro e w8 ⟨rfl, hb8⟩; rw [HWe.out] at hb8; have HX8 := Lib.hid (show TBox w8 (w.heap.size + 1 + 1 + 1 + 1) zeroT (.slice none 0 0) ∧ w8.heap[w.heap.size + 1 + 1 + 1 + 1 + 1]? = some (.cells #[.nilIface] 29 (0, 0)) ∧ Below w.heap.size w w8 from ⟨HX.out.2.2.2.2.1.below hb8, (hb8.block _ (Array.getElem?_eq_some_iff.1 HX.out.2.2.2.2.2).1).trans HX.out.2.2.2.2.2, HB.out.1.trans (hb8.mono HB.out.1.size)⟩); obtain ⟨a0, a1, a2, a3, a4, a5⟩ := HX8.out.1.cells rfl rfl; obtain ⟨e0, e1, e2, e3, e4, e5⟩ := HX8.out.1.frozens; have cE := cell_of_one HX8.out.2.1; have fE := free_of_one HX8.out.2.1; clear hb8)
  obtain ⟨hbx, hgr⟩ := HX8.out.1.set6 (k := 0) (b := 0) (v := 0) (n := []) (m := []) (nb := ⟨#[]⟩) (mb := ⟨#[]⟩) [] (.slice none 0 0) rfl rfl
  generalize ((((((w8.setCell ⟨w.heap.size + 1 + 1 + 1 + 1, 0, none⟩ (.int .i64 0)).setCell ⟨w.heap.size + 1 + 1 + 1 + 1, 1, none⟩ (.string ⟨#[]⟩)).setCell ⟨w.heap.size + 1 + 1 + 1 + 1, 2, none⟩ (.string ⟨#[]⟩)).setCell ⟨w.heap.size + 1 + 1 + 1 + 1, 3, none⟩ (.int .u64 0)).setCell ⟨w.heap.size + 1 + 1 + 1 + 1, 4, none⟩ (.int .i64 0)).setCell ⟨w.heap.size + 1 + 1 + 1 + 1, 5, none⟩ (.slice none 0 0)) = w9 at *
  have hE9 := blk_ne hgr HX8.out.2.1 (by omega)
  have hbx10 := hbx.far (p := ⟨w.heap.size + 1 + 1 + 1 + 1 + 1, 0, none⟩) (by show w.heap.size + 1 + 1 + 1 + 1 ≠ w.heap.size + 1 + 1 + 1 + 1 + 1; omega) (.iface 32 (.int .i64 c))
  have hE10 := one_setCell (u := .iface 32 (.int .i64 c)) hE9
  have hb10 : Below w.heap.size w (w9.setCell ⟨w.heap.size + 1 + 1 + 1 + 1 + 1, 0, none⟩ (.iface 32 (.int .i64 c))) := (HX8.out.2.2.grown hgr HX8.out.2.2.size (fun j e => by injection e with e; omega)).setCell (by show w.heap.size ≤ w.heap.size + 1 + 1 + 1 + 1 + 1; omega) _
  generalize w9.setCell ⟨w.heap.size + 1 + 1 + 1 + 1 + 1, 0, none⟩ (.iface 32 (.int .i64 c)) = w10 at *
  obtain ⟨r0, r1, r2, r3, r4, r5⟩ := hbx10.cells (nb := ⟨#[]⟩) (mb := ⟨#[]⟩) rfl rfl
  have cE10 := cell_of_one hE10
  simp only [bodyPostD, Leaves]
  exact ⟨.tuple #[zeroTV, .int .i64 0, .iface 32 (.int .i64 c)], by simp [results, Tryd.results16, go_sem, r0, r1, r2, r3, r4, r5, cE10, zeroTV], rfl, hb10⟩
set_option maxRecDepth 100000 in
set_option maxHeartbeats 16000000 in
theorem Body_arg {w0 w : World} {t f d : Tm} {st sf sd : Value} {nx : Int} (h1 : TAt w w.heap.size t st) (h2 : TAt w w.heap.size f sf) (h3 : TAt w w.heap.size d sd) (hU : UOk w0 w) (hcs : checksP [t, f, d] = 0) (hc : nx < 0 ∨ 4611686018427387904 < nx) : Calls Tryd.prog 16 #[valT t st, valT f sf, valT d sd, .int .i64 nx] w fun e w' => e = .returned (.tuple #[zeroTV, .int .i64 0, .iface 32 (.int .i64 1)]) ∧ Below w.heap.size w w' := by
  obtain ⟨k1, n1, m1, b1, v1, ts1, nb1, mb1, A1, c1, hT1, rfl, hnb1, hmb1, hl1, hc1, hx1, hv1, hs1, hq1⟩ := h1.letters
  subst hT1
  obtain ⟨L1, hL1⟩ : ∃ L, ts1.length = L := ⟨_, rfl⟩
  rw [hv1]
  rw [hL1] at h1 hv1 ⊢
  obtain ⟨k2, n2, m2, b2, v2, ts2, nb2, mb2, A2, c2, hT2, rfl, hnb2, hmb2, hl2, hc2, hx2, hv2, hs2, hq2⟩ := h2.letters
  subst hT2
  obtain ⟨L2, hL2⟩ : ∃ L, ts2.length = L := ⟨_, rfl⟩
  rw [hv2]
  rw [hL2] at h2 hv2 ⊢
  obtain ⟨k3, n3, m3, b3, v3, ts3, nb3, mb3, A3, c3, hT3, rfl, hnb3, hmb3, hl3, hc3, hx3, hv3, hs3, hq3⟩ := h3.letters
  subst hT3
  obtain ⟨L3, hL3⟩ : ∃ L, ts3.length = L := ⟨_, rfl⟩
  rw [hv3]
  rw [hL3] at h3 hv3 ⊢
  obtain ⟨W1, hW1⟩ : ∃ W, w.alloc (.cells #[.int .i64 k1, .string nb1, .string mb1, .int .u64 b1, .int .i64 v1, .slice A1 L1 c1] 25) = W := ⟨_, rfl⟩
  obtain ⟨W2, hW2⟩ : ∃ W, W1.alloc (.cells #[.int .i64 k2, .string nb2, .string mb2, .int .u64 b2, .int .i64 v2, .slice A2 L2 c2] 25) = W := ⟨_, rfl⟩
  obtain ⟨W3, hW3⟩ : ∃ W, W2.alloc (.cells #[.int .i64 k3, .string nb3, .string mb3, .int .u64 b3, .int .i64 v3, .slice A3 L3 c3] 25) = W := ⟨_, rfl⟩
  obtain ⟨W4, hW4⟩ : ∃ W, W3.alloc (.cells #[.int .i64 nx] 3) = W := ⟨_, rfl⟩
  obtain ⟨W5, hW5⟩ : ∃ W, W4.alloc (.cells #[.int .i64 0, .string ⟨#[]⟩, .string ⟨#[]⟩, .int .u64 0, .int .i64 0, .slice none 0 0] 25) = W := ⟨_, rfl⟩
  obtain ⟨W6, hW6⟩ : ∃ W, W5.alloc (.cells #[.nilIface] 29) = W := ⟨_, rfl⟩
  obtain ⟨W7, hW7⟩ : ∃ W, W6.alloc (.cells #[.int .i64 k1, .string nb1, .string mb1, .int .u64 b1, .int .i64 v1, .slice A1 L1 c1, .int .i64 k2, .string nb2, .string mb2, .int .u64 b2, .int .i64 v2, .slice A2 L2 c2, .int .i64 k3, .string nb3, .string mb3, .int .u64 b3, .int .i64 v3, .slice A3 L3 c3] 25) = W := ⟨_, rfl⟩
  have d1 : Below w.heap.size w W1 := by rw [← hW1]; exact (Below.refl _ _).alloc (Nat.le_refl _) _
  have s1 : W1.heap.size = w.heap.size + 1 := by rw [← hW1]; simp
  have X1 : TBox W1 w.heap.size (.mk k1 n1 m1 b1 v1 ts1) (.slice A1 L1 c1) := by rw [← hW1]; exact TBox.new w hnb1 hmb1
  have d2 : Below W1.heap.size W1 W2 := by rw [← hW2]; exact (Below.refl _ _).alloc (Nat.le_refl _) _
  have s2 : W2.heap.size = W1.heap.size + 1 := by rw [← hW2]; simp
  have X2 : TBox W2 W1.heap.size (.mk k2 n2 m2 b2 v2 ts2) (.slice A2 L2 c2) := by rw [← hW2]; exact TBox.new W1 hnb2 hmb2
  have d3 : Below W2.heap.size W2 W3 := by rw [← hW3]; exact (Below.refl _ _).alloc (Nat.le_refl _) _
  have s3 : W3.heap.size = W2.heap.size + 1 := by rw [← hW3]; simp
  have X3 : TBox W3 W2.heap.size (.mk k3 n3 m3 b3 v3 ts3) (.slice A3 L3 c3) := by rw [← hW3]; exact TBox.new W2 hnb3 hmb3
  have d4 : Below W3.heap.size W3 W4 := by rw [← hW4]; exact (Below.refl _ _).alloc (Nat.le_refl _) _
  have s4 : W4.heap.size = W3.heap.size + 1 := by rw [← hW4]; simp
  have X4 : W4.heap[W3.heap.size]? = some (.cells #[.int .i64 nx] 3 (0, 0)) := by rw [← hW4]; exact heap_alloc_new W3 _
  have d5 : Below W4.heap.size W4 W5 := by rw [← hW5]; exact (Below.refl _ _).alloc (Nat.le_refl _) _
  have s5 : W5.heap.size = W4.heap.size + 1 := by rw [← hW5]; simp
  have X5 : TBox W5 W4.heap.size zeroT (.slice none 0 0) := by rw [← hW5]; exact heap_alloc_new W4 _
  have d6 : Below W5.heap.size W5 W6 := by rw [← hW6]; exact (Below.refl _ _).alloc (Nat.le_refl _) _
  have s6 : W6.heap.size = W5.heap.size + 1 := by rw [← hW6]; simp
  have X6 : W6.heap[W5.heap.size]? = some (.cells #[.nilIface] 29 (0, 0)) := by rw [← hW6]; exact heap_alloc_new W5 _
  have d7 : Below W6.heap.size W6 W7 := by rw [← hW7]; exact (Below.refl _ _).alloc (Nat.le_refl _) _
  have s7 : W7.heap.size = W6.heap.size + 1 := by rw [← hW7]; simp
  have X7 : W7.heap[W6.heap.size]? = some (.cells #[.int .i64 k1, .string nb1, .string mb1, .int .u64 b1, .int .i64 v1, .slice A1 L1 c1, .int .i64 k2, .string nb2, .string mb2, .int .u64 b2, .int .i64 v2, .slice A2 L2 c2, .int .i64 k3, .string nb3, .string mb3, .int .u64 b3, .int .i64 v3, .slice A3 L3 c3] 25 (0, 0)) := by rw [← hW7]; exact heap_alloc_new W6 _
  replace X1 := X1.below d2
  replace X1 := X1.below d3
  replace X1 := X1.below d4
  replace X1 := X1.below d5
  replace X1 := X1.below d6
  replace X1 := X1.below d7
  replace X2 := X2.below d3
  replace X2 := X2.below d4
  replace X2 := X2.below d5
  replace X2 := X2.below d6
  replace X2 := X2.below d7
  replace X3 := X3.below d4
  replace X3 := X3.below d5
  replace X3 := X3.below d6
  replace X3 := X3.below d7
  replace X4 := (d5.block _ (by omega)).trans X4
  replace X4 := (d6.block _ (by omega)).trans X4
  replace X4 := (d7.block _ (by omega)).trans X4
  replace X5 := X5.below d6
  replace X5 := X5.below d7
  replace X6 := (d7.block _ (by omega)).trans X6
  have hb7 : Below w.heap.size w W7 := d1.trans ((d2.trans ((d3.trans ((d4.trans ((d5.trans ((d6.trans ((d7).mono (by omega))).mono (by omega))).mono (by omega))).mono (by omega))).mono (by omega))).mono (by omega))
  have hsz7 : W7.heap.size = w.heap.size + 1 + 1 + 1 + 1 + 1 + 1 + 1 := by omega
  have hrow : RowP W7 (fun b => b < w.heap.size) (some ⟨W6.heap.size, 0, none⟩) 3 [((.mk k1 n1 m1 b1 v1 ts1 : Tm), Value.slice A1 L1 c1), ((.mk k2 n2 m2 b2 v2 ts2 : Tm), Value.slice A2 L2 c2), ((.mk k3 n3 m3 b3 v3 ts3 : Tm), Value.slice A3 L3 c3)] := rowP_at X7 (by rw [← hnb1, ← hmb1, ← hnb2, ← hmb2, ← hnb3, ← hmb3]; rfl) rfl (mem3 (TAtP.below h1 hb7 (fun b hb => hb)) (TAtP.below h2 hb7 (fun b hb => hb)) (TAtP.below h3 hb7 (fun b hb => hb)))
  have hck := dcheck_any (w0 := w0) (c := 3) hrow (fun b hb => Nat.lt_of_lt_of_le hb hb7.size) (by unfold maxArgs; omega) (Nat.le_refl _) (hU.below hb7)
  rw [s6, s5, s4, s3, s2, s1] at X7
  rw [s5, s4, s3, s2, s1] at X6
  rw [s4, s3, s2, s1] at X5
  rw [s3, s2, s1] at X4
  rw [s2, s1] at X3
  rw [s1] at X2
  rw [s6, s5, s4, s3, s2, s1] at hck
  obtain ⟨x0, x1, x2, x3, x4, x5⟩ := X1.cells hnb1 hmb1
  obtain ⟨y0, y1, y2, y3, y4, y5⟩ := X2.cells hnb2 hmb2
  obtain ⟨z0, z1, z2, z3, z4, z5⟩ := X3.cells hnb3 hmb3
  have HX := Lib.hid (And.intro X1 (And.intro X2 (And.intro X3 (And.intro X4 (And.intro X5 X6)))))
  have HM := Lib.hid (And.intro (And.intro hnb1 hmb1) (And.intro (And.intro hnb2 hmb2) (And.intro hnb3 hmb3)))
  have HT := Lib.hid (And.intro h1 (And.intro h2 h3))
  have HB := Lib.hid (And.intro hb7 hsz7)
  have HC := Lib.hid hck
  have HU := Lib.hid hU
  have HWe := Lib.hid hW7
  subst hW1 hW2 hW3 hW4 hW5 hW6
  rw [← HWe.out] at x0 x1 x2 x3 x4 x5 y0 y1 y2 y3 y4 y5 z0 z1 z2 z3 z4 z5 HC
  clear h1 h2 h3 hU hck hrow hb7 hsz7 hW7 X1 X2 X3 X4 X5 X6 X7 s1 s2 s3 s4 s5 s6 s7 d1 d2 d3 d4 d5 d6 d7 hnb1 hmb1 hnb2 hmb2 hnb3 hmb3 hL1 hL2 hL3 hv1 hv2 hv3 hs1 hs2 hs3 hq1 hq2 hq3
  rw [show checksP ([((.mk k1 n1 m1 b1 v1 ts1 : Tm), Value.slice A1 L1 c1), ((.mk k2 n2 m2 b2 v2 ts2 : Tm), Value.slice A2 L2 c2), ((.mk k3 n3 m3 b3 v3 ts3 : Tm), Value.slice A3 L3 c3)].map (·.1)) = 0 from hcs, errV, if_pos rfl] at HC
  clear hcs
  have hc2 : (nx < 0) ∨ (¬ nx < 0 ∧ 4611686018427387904 < nx) := by omega
  clear hc
  go_enter_defers Tryd.func16, Tryd.ntmps16
  go_upto_region 4 with (go_at_call 27; (with_reducible refine HC.out.mono ?_); rintro e w8 ⟨rfl, hb8⟩; rw [HWe.out] at hb8; have HX8 := Lib.hid (show TBox w8 (w.heap.size + 1 + 1 + 1 + 1) zeroT (.slice none 0 0) ∧ w8.heap[w.heap.size + 1 + 1 + 1 + 1 + 1]? = some (.cells #[.nilIface] 29 (0, 0)) ∧ Below w.heap.size w w8 from ⟨HX.out.2.2.2.2.1.below hb8, (hb8.block _ (Array.getElem?_eq_some_iff.1 HX.out.2.2.2.2.2).1).trans HX.out.2.2.2.2.2, HB.out.1.trans (hb8.mono HB.out.1.size)⟩); have HB8 := Lib.hid hb8; have cN := cell_of_one (show w8.heap[w.heap.size + 1 + 1 + 1]? = some (.cells #[.int .i64 nx] 3 (0, 0)) from (hb8.block _ (Array.getElem?_eq_some_iff.1 HX.out.2.2.2.1).1).trans HX.out.2.2.2.1); clear hb8)
  obtain ⟨a0, a1, a2, a3, a4, a5⟩ := HX8.out.1.cells rfl rfl
  obtain ⟨e0, e1, e2, e3, e4, e5⟩ := HX8.out.1.frozens
  have cE := cell_of_one HX8.out.2.1
  have fE := free_of_one HX8.out.2.1
  rcases hc2 with hn | ⟨hn, hn2⟩
  · go_wp2
    obtain ⟨hbx, hgr⟩ := HX8.out.1.set6 (k := 0) (b := 0) (v := 0) (n := []) (m := []) (nb := ⟨#[]⟩) (mb := ⟨#[]⟩) [] (.slice none 0 0) rfl rfl
    generalize ((((((w8.setCell ⟨w.heap.size + 1 + 1 + 1 + 1, 0, none⟩ (.int .i64 0)).setCell ⟨w.heap.size + 1 + 1 + 1 + 1, 1, none⟩ (.string ⟨#[]⟩)).setCell ⟨w.heap.size + 1 + 1 + 1 + 1, 2, none⟩ (.string ⟨#[]⟩)).setCell ⟨w.heap.size + 1 + 1 + 1 + 1, 3, none⟩ (.int .u64 0)).setCell ⟨w.heap.size + 1 + 1 + 1 + 1, 4, none⟩ (.int .i64 0)).setCell ⟨w.heap.size + 1 + 1 + 1 + 1, 5, none⟩ (.slice none 0 0)) = w9 at *
    have hE9 := blk_ne hgr HX8.out.2.1 (by omega)
    have hbx10 := hbx.far (p := ⟨w.heap.size + 1 + 1 + 1 + 1 + 1, 0, none⟩) (by show w.heap.size + 1 + 1 + 1 + 1 ≠ w.heap.size + 1 + 1 + 1 + 1 + 1; omega) (.iface 32 (.int .i64 1))
    have hE10 := one_setCell (u := .iface 32 (.int .i64 1)) hE9
    have hb10 : Below w.heap.size w (w9.setCell ⟨w.heap.size + 1 + 1 + 1 + 1 + 1, 0, none⟩ (.iface 32 (.int .i64 1))) := (HX8.out.2.2.grown hgr HX8.out.2.2.size (fun j e => by injection e with e; omega)).setCell (by show w.heap.size ≤ w.heap.size + 1 + 1 + 1 + 1 + 1; omega) _
    generalize w9.setCell ⟨w.heap.size + 1 + 1 + 1 + 1 + 1, 0, none⟩ (.iface 32 (.int .i64 1)) = w10 at *
    obtain ⟨r0, r1, r2, r3, r4, r5⟩ := hbx10.cells (nb := ⟨#[]⟩) (mb := ⟨#[]⟩) rfl rfl
    have cE10 := cell_of_one hE10
    simp only [bodyPostD, Leaves]
    exact ⟨.tuple #[zeroTV, .int .i64 0, .iface 32 (.int .i64 1)], by simp [results, Tryd.results16, go_sem, r0, r1, r2, r3, r4, r5, cE10, zeroTV], rfl, hb10⟩
  · go_wp2
    obtain ⟨hbx, hgr⟩ := HX8.out.1.set6 (k := 0) (b := 0) (v := 0) (n := []) (m := []) (nb := ⟨#[]⟩) (mb := ⟨#[]⟩) [] (.slice none 0 0) rfl rfl
    generalize ((((((w8.setCell ⟨w.heap.size + 1 + 1 + 1 + 1, 0, none⟩ (.int .i64 0)).setCell ⟨w.heap.size + 1 + 1 + 1 + 1, 1, none⟩ (.string ⟨#[]⟩)).setCell ⟨w.heap.size + 1 + 1 + 1 + 1, 2, none⟩ (.string ⟨#[]⟩)).setCell ⟨w.heap.size + 1 + 1 + 1 + 1, 3, none⟩ (.int .u64 0)).setCell ⟨w.heap.size + 1 + 1 + 1 + 1, 4, none⟩ (.int .i64 0)).setCell ⟨w.heap.size + 1 + 1 + 1 + 1, 5, none⟩ (.slice none 0 0)) = w9 at *
    have hE9 := blk_ne hgr HX8.out.2.1 (by omega)
    have hbx10 := hbx.far (p := ⟨w.heap.size + 1 + 1 + 1 + 1 + 1, 0, none⟩) (by show w.heap.size + 1 + 1 + 1 + 1 ≠ w.heap.size + 1 + 1 + 1 + 1 + 1; omega) (.iface 32 (.int .i64 1))
    have hE10 := one_setCell (u := .iface 32 (.int .i64 1)) hE9
    have hb10 : Below w.heap.size w (w9.setCell ⟨w.heap.size + 1 + 1 + 1 + 1 + 1, 0, none⟩ (.iface 32 (.int .i64 1))) := (HX8.out.2.2.grown hgr HX8.out.2.2.size (fun j e => by injection e with e; omega)).setCell (by show w.heap.size ≤ w.heap.size + 1 + 1 + 1 + 1 + 1; omega) _
    generalize w9.setCell ⟨w.heap.size + 1 + 1 + 1 + 1 + 1, 0, none⟩ (.iface 32 (.int .i64 1)) = w10 at *
    obtain ⟨r0, r1, r2, r3, r4, r5⟩ := hbx10.cells (nb := ⟨#[]⟩) (mb := ⟨#[]⟩) rfl rfl
    have cE10 := cell_of_one hE10
    simp only [bodyPostD, Leaves]
    exact ⟨.tuple #[zeroTV, .int .i64 0, .iface 32 (.int .i64 1)], by simp [results, Tryd.results16, go_sem, r0, r1, r2, r3, r4, r5, cE10, zeroTV], rfl, hb10⟩
set_option maxRecDepth 100000 in
set_option maxHeartbeats 16000000 in
theorem Body_main {w0 w : World} {t f d : Tm} {st sf sd : Value} {nx : Int} (h1 : TAt w w.heap.size t st) (h2 : TAt w w.heap.size f sf) (h3 : TAt w w.heap.size d sd) (hU : UOk w0 w) (hcs : checksP [t, f, d] = 0) (hc : 0 ≤ nx ∧ nx ≤ 4611686018427387904) : Calls Tryd.prog 16 #[valT t st, valT f sf, valT d sd, .int .i64 nx] w (BodyR w (bodyT t f d nx)) := by
  have hct : checkP t = 0 ∧ checkP f = 0 ∧ checkP d = 0 := by
    have h9 := hcs
    unfold checksP checks at h9
    by_cases e1 : check Lib.validD canonB floB t = 0
    · rw [if_neg (by simp [e1])] at h9
      unfold checks at h9
      by_cases e2 : check Lib.validD canonB floB f = 0
      · rw [if_neg (by simp [e2])] at h9
        unfold checks at h9
        by_cases e3 : check Lib.validD canonB floB d = 0
        · exact ⟨e1, e2, e3⟩
        · rw [if_pos e3] at h9; exact absurd h9 e3
      · rw [if_pos e2] at h9; exact absurd h9 e2
    · rw [if_pos e1] at h9; exact absurd h9 e1
  obtain ⟨k1, n1, m1, b1, v1, ts1, nb1, mb1, A1, c1, hT1, rfl, hnb1, hmb1, hl1, hc1, hx1, hv1, hs1, hq1⟩ := h1.letters
  subst hT1
  obtain ⟨L1, hL1⟩ : ∃ L, ts1.length = L := ⟨_, rfl⟩
  rw [hv1]
  rw [hL1] at h1 hv1 ⊢
  obtain ⟨k2, n2, m2, b2, v2, ts2, nb2, mb2, A2, c2, hT2, rfl, hnb2, hmb2, hl2, hc2, hx2, hv2, hs2, hq2⟩ := h2.letters
  subst hT2
  obtain ⟨L2, hL2⟩ : ∃ L, ts2.length = L := ⟨_, rfl⟩
  rw [hv2]
  rw [hL2] at h2 hv2 ⊢
  obtain ⟨k3, n3, m3, b3, v3, ts3, nb3, mb3, A3, c3, hT3, rfl, hnb3, hmb3, hl3, hc3, hx3, hv3, hs3, hq3⟩ := h3.letters
  subst hT3
  obtain ⟨L3, hL3⟩ : ∃ L, ts3.length = L := ⟨_, rfl⟩
  rw [hv3]
  rw [hL3] at h3 hv3 ⊢
  obtain ⟨W1, hW1⟩ : ∃ W, w.alloc (.cells #[.int .i64 k1, .string nb1, .string mb1, .int .u64 b1, .int .i64 v1, .slice A1 L1 c1] 25) = W := ⟨_, rfl⟩
  obtain ⟨W2, hW2⟩ : ∃ W, W1.alloc (.cells #[.int .i64 k2, .string nb2, .string mb2, .int .u64 b2, .int .i64 v2, .slice A2 L2 c2] 25) = W := ⟨_, rfl⟩
  obtain ⟨W3, hW3⟩ : ∃ W, W2.alloc (.cells #[.int .i64 k3, .string nb3, .string mb3, .int .u64 b3, .int .i64 v3, .slice A3 L3 c3] 25) = W := ⟨_, rfl⟩
  obtain ⟨W4, hW4⟩ : ∃ W, W3.alloc (.cells #[.int .i64 nx] 3) = W := ⟨_, rfl⟩
  obtain ⟨W5, hW5⟩ : ∃ W, W4.alloc (.cells #[.int .i64 0, .string ⟨#[]⟩, .string ⟨#[]⟩, .int .u64 0, .int .i64 0, .slice none 0 0] 25) = W := ⟨_, rfl⟩
  obtain ⟨W6, hW6⟩ : ∃ W, W5.alloc (.cells #[.nilIface] 29) = W := ⟨_, rfl⟩
  obtain ⟨W7, hW7⟩ : ∃ W, W6.alloc (.cells #[.int .i64 k1, .string nb1, .string mb1, .int .u64 b1, .int .i64 v1, .slice A1 L1 c1, .int .i64 k2, .string nb2, .string mb2, .int .u64 b2, .int .i64 v2, .slice A2 L2 c2, .int .i64 k3, .string nb3, .string mb3, .int .u64 b3, .int .i64 v3, .slice A3 L3 c3] 25) = W := ⟨_, rfl⟩
  have d1 : Below w.heap.size w W1 := by rw [← hW1]; exact (Below.refl _ _).alloc (Nat.le_refl _) _
  have s1 : W1.heap.size = w.heap.size + 1 := by rw [← hW1]; simp
  have X1 : TBox W1 w.heap.size (.mk k1 n1 m1 b1 v1 ts1) (.slice A1 L1 c1) := by rw [← hW1]; exact TBox.new w hnb1 hmb1
  have d2 : Below W1.heap.size W1 W2 := by rw [← hW2]; exact (Below.refl _ _).alloc (Nat.le_refl _) _
  have s2 : W2.heap.size = W1.heap.size + 1 := by rw [← hW2]; simp
  have X2 : TBox W2 W1.heap.size (.mk k2 n2 m2 b2 v2 ts2) (.slice A2 L2 c2) := by rw [← hW2]; exact TBox.new W1 hnb2 hmb2
  have d3 : Below W2.heap.size W2 W3 := by rw [← hW3]; exact (Below.refl _ _).alloc (Nat.le_refl _) _
  have s3 : W3.heap.size = W2.heap.size + 1 := by rw [← hW3]; simp
  have X3 : TBox W3 W2.heap.size (.mk k3 n3 m3 b3 v3 ts3) (.slice A3 L3 c3) := by rw [← hW3]; exact TBox.new W2 hnb3 hmb3
  have d4 : Below W3.heap.size W3 W4 := by rw [← hW4]; exact (Below.refl _ _).alloc (Nat.le_refl _) _
  have s4 : W4.heap.size = W3.heap.size + 1 := by rw [← hW4]; simp
  have X4 : W4.heap[W3.heap.size]? = some (.cells #[.int .i64 nx] 3 (0, 0)) := by rw [← hW4]; exact heap_alloc_new W3 _
  have d5 : Below W4.heap.size W4 W5 := by rw [← hW5]; exact (Below.refl _ _).alloc (Nat.le_refl _) _
  have s5 : W5.heap.size = W4.heap.size + 1 := by rw [← hW5]; simp
  have X5 : TBox W5 W4.heap.size zeroT (.slice none 0 0) := by rw [← hW5]; exact heap_alloc_new W4 _
  have d6 : Below W5.heap.size W5 W6 := by rw [← hW6]; exact (Below.refl _ _).alloc (Nat.le_refl _) _
  have s6 : W6.heap.size = W5.heap.size + 1 := by rw [← hW6]; simp
  have X6 : W6.heap[W5.heap.size]? = some (.cells #[.nilIface] 29 (0, 0)) := by rw [← hW6]; exact heap_alloc_new W5 _
  have d7 : Below W6.heap.size W6 W7 := by rw [← hW7]; exact (Below.refl _ _).alloc (Nat.le_refl _) _
  have s7 : W7.heap.size = W6.heap.size + 1 := by rw [← hW7]; simp
  have X7 : W7.heap[W6.heap.size]? = some (.cells #[.int .i64 k1, .string nb1, .string mb1, .int .u64 b1, .int .i64 v1, .slice A1 L1 c1, .int .i64 k2, .string nb2, .string mb2, .int .u64 b2, .int .i64 v2, .slice A2 L2 c2, .int .i64 k3, .string nb3, .string mb3, .int .u64 b3, .int .i64 v3, .slice A3 L3 c3] 25 (0, 0)) := by rw [← hW7]; exact heap_alloc_new W6 _
  replace X1 := X1.below d2
  replace X1 := X1.below d3
  replace X1 := X1.below d4
  replace X1 := X1.below d5
  replace X1 := X1.below d6
  replace X1 := X1.below d7
  replace X2 := X2.below d3
  replace X2 := X2.below d4
  replace X2 := X2.below d5
  replace X2 := X2.below d6
  replace X2 := X2.below d7
  replace X3 := X3.below d4
  replace X3 := X3.below d5
  replace X3 := X3.below d6
  replace X3 := X3.below d7
  replace X4 := (d5.block _ (by omega)).trans X4
  replace X4 := (d6.block _ (by omega)).trans X4
  replace X4 := (d7.block _ (by omega)).trans X4
  replace X5 := X5.below d6
  replace X5 := X5.below d7
  replace X6 := (d7.block _ (by omega)).trans X6
  have hb7 : Below w.heap.size w W7 := d1.trans ((d2.trans ((d3.trans ((d4.trans ((d5.trans ((d6.trans ((d7).mono (by omega))).mono (by omega))).mono (by omega))).mono (by omega))).mono (by omega))).mono (by omega))
  have hsz7 : W7.heap.size = w.heap.size + 1 + 1 + 1 + 1 + 1 + 1 + 1 := by omega
  have hrow : RowP W7 (fun b => b < w.heap.size) (some ⟨W6.heap.size, 0, none⟩) 3 [((.mk k1 n1 m1 b1 v1 ts1 : Tm), Value.slice A1 L1 c1), ((.mk k2 n2 m2 b2 v2 ts2 : Tm), Value.slice A2 L2 c2), ((.mk k3 n3 m3 b3 v3 ts3 : Tm), Value.slice A3 L3 c3)] := rowP_at X7 (by rw [← hnb1, ← hmb1, ← hnb2, ← hmb2, ← hnb3, ← hmb3]; rfl) rfl (mem3 (TAtP.below h1 hb7 (fun b hb => hb)) (TAtP.below h2 hb7 (fun b hb => hb)) (TAtP.below h3 hb7 (fun b hb => hb)))
  have hck := dcheck_any (w0 := w0) (c := 3) hrow (fun b hb => Nat.lt_of_lt_of_le hb hb7.size) (by unfold maxArgs; omega) (Nat.le_refl _) (hU.below hb7)
  rw [s6, s5, s4, s3, s2, s1] at X7
  rw [s5, s4, s3, s2, s1] at X6
  rw [s4, s3, s2, s1] at X5
  rw [s3, s2, s1] at X4
  rw [s2, s1] at X3
  rw [s1] at X2
  rw [s6, s5, s4, s3, s2, s1] at hck
  obtain ⟨x0, x1, x2, x3, x4, x5⟩ := X1.cells hnb1 hmb1
  obtain ⟨y0, y1, y2, y3, y4, y5⟩ := X2.cells hnb2 hmb2
  obtain ⟨z0, z1, z2, z3, z4, z5⟩ := X3.cells hnb3 hmb3
  have HX := Lib.hid (And.intro X1 (And.intro X2 (And.intro X3 (And.intro X4 (And.intro X5 X6)))))
  have HM := Lib.hid (And.intro (And.intro hnb1 hmb1) (And.intro (And.intro hnb2 hmb2) (And.intro hnb3 hmb3)))
  have HT := Lib.hid (And.intro h1 (And.intro h2 h3))
  have HB := Lib.hid (And.intro hb7 hsz7)
  have HC := Lib.hid hck
  have HU := Lib.hid hU
  have HWe := Lib.hid hW7
  subst hW1 hW2 hW3 hW4 hW5 hW6
  rw [← HWe.out] at x0 x1 x2 x3 x4 x5 y0 y1 y2 y3 y4 y5 z0 z1 z2 z3 z4 z5 HC
  clear h1 h2 h3 hU hck hrow hb7 hsz7 hW7 X1 X2 X3 X4 X5 X6 X7 s1 s2 s3 s4 s5 s6 s7 d1 d2 d3 d4 d5 d6 d7 hnb1 hmb1 hnb2 hmb2 hnb3 hmb3 hL1 hL2 hL3 hv1 hv2 hv3 hs1 hs2 hs3 hq1 hq2 hq3
  rw [show checksP ([((.mk k1 n1 m1 b1 v1 ts1 : Tm), Value.slice A1 L1 c1), ((.mk k2 n2 m2 b2 v2 ts2 : Tm), Value.slice A2 L2 c2), ((.mk k3 n3 m3 b3 v3 ts3 : Tm), Value.slice A3 L3 c3)].map (·.1)) = 0 from hcs, errV, if_pos rfl] at HC
  have HCk := Lib.hid (And.intro hct hc)
  clear hcs hct
  obtain ⟨hc1, hc2⟩ := hc
  have hc3 : ¬ nx < 0 := by omega
  have hc4 : ¬ 4611686018427387904 < nx := by omega
  obtain ⟨RR, hRR⟩ : ∃ RR, bodyT (.mk k1 n1 m1 b1 v1 ts1) (.mk k2 n2 m2 b2 v2 ts2) (.mk k3 n3 m3 b3 v3 ts3) nx = RR := ⟨_, rfl⟩
  obtain ⟨RM, hRM⟩ : ∃ RM, mkB (.mk k1 n1 m1 b1 v1 ts1) (.mk k2 n2 m2 b2 v2 ts2) (.mk k3 n3 m3 b3 v3 ts3) nx = RM := ⟨_, rfl⟩
  rw [hRR]
  have HRR := Lib.hid (And.intro hRR hRM)
  clear hRR hRM
  go_enter_defers Tryd.func16, Tryd.ntmps16
  go_upto_region 7 with (go_at_call 27; (with_reducible refine HC.out.mono ?_); rintro e w8 ⟨rfl, hb8⟩; rw [HWe.out] at hb8; have HX8 := Lib.hid (show TBox w8 (w.heap.size + 1 + 1 + 1 + 1) zeroT (.slice none 0 0) ∧ w8.heap[w.heap.size + 1 + 1 + 1 + 1 + 1]? = some (.cells #[.nilIface] 29 (0, 0)) ∧ Below w.heap.size w w8 from ⟨HX.out.2.2.2.2.1.below hb8, (hb8.block _ (Array.getElem?_eq_some_iff.1 HX.out.2.2.2.2.2).1).trans HX.out.2.2.2.2.2, HB.out.1.trans (hb8.mono HB.out.1.size)⟩); have HB8 := Lib.hid hb8; have cN := cell_of_one (show w8.heap[w.heap.size + 1 + 1 + 1]? = some (.cells #[.int .i64 nx] 3 (0, 0)) from (hb8.block _ (Array.getElem?_eq_some_iff.1 HX.out.2.2.2.1).1).trans HX.out.2.2.2.1); clear hb8)
  clear x0 x1 x2 x3 x4 x5 y0 y1 y2 y3 y4 y5 z0 z1 z2 z3 z4 z5 cN
  have HSS := Lib.hid (show ∀ z, w8.grownBy z (some (w.heap.size + 1 + 1 + 1)) → ((z.cell? ⟨w.heap.size, 0, none⟩ = some (.int .i64 k1) ∧ z.cell? ⟨w.heap.size, 1, none⟩ = some (.string nb1) ∧ z.cell? ⟨w.heap.size, 2, none⟩ = some (.string mb1) ∧ z.cell? ⟨w.heap.size, 3, none⟩ = some (.int .u64 b1) ∧ z.cell? ⟨w.heap.size, 4, none⟩ = some (.int .i64 v1) ∧ z.cell? ⟨w.heap.size, 5, none⟩ = some (.slice A1 L1 c1)) ∧ (z.cell? ⟨w.heap.size + 1, 0, none⟩ = some (.int .i64 k2) ∧ z.cell? ⟨w.heap.size + 1, 1, none⟩ = some (.string nb2) ∧ z.cell? ⟨w.heap.size + 1, 2, none⟩ = some (.string mb2) ∧ z.cell? ⟨w.heap.size + 1, 3, none⟩ = some (.int .u64 b2) ∧ z.cell? ⟨w.heap.size + 1, 4, none⟩ = some (.int .i64 v2) ∧ z.cell? ⟨w.heap.size + 1, 5, none⟩ = some (.slice A2 L2 c2)) ∧ (z.cell? ⟨w.heap.size + 1 + 1, 0, none⟩ = some (.int .i64 k3) ∧ z.cell? ⟨w.heap.size + 1 + 1, 1, none⟩ = some (.string nb3) ∧ z.cell? ⟨w.heap.size + 1 + 1, 2, none⟩ = some (.string mb3) ∧ z.cell? ⟨w.heap.size + 1 + 1, 3, none⟩ = some (.int .u64 b3) ∧ z.cell? ⟨w.heap.size + 1 + 1, 4, none⟩ = some (.int .i64 v3) ∧ z.cell? ⟨w.heap.size + 1 + 1, 5, none⟩ = some (.slice A3 L3 c3))) from fun z hb => ⟨((HX.out.1.below HB8.out).gro hb (by omega)).cells HM.out.1.1 HM.out.1.2, ((HX.out.2.1.below HB8.out).gro hb (by omega)).cells HM.out.2.1.1 HM.out.2.1.2, ((HX.out.2.2.1.below HB8.out).gro hb (by omega)).cells HM.out.2.2.1 HM.out.2.2.2⟩)
  have h8z := HB8.out.size
  have h7z := HB.out.2
  obtain ⟨G, hG⟩ : ∃ G, w.heap.size = G := ⟨_, rfl⟩
  have HG := Lib.hid hG
  have HN8 := Lib.hid (show w8.heap[w.heap.size + 1 + 1 + 1]? = some (.cells #[.int .i64 nx] 3 (0, 0)) from (HB8.out.block _ (Array.getElem?_eq_some_iff.1 HX.out.2.2.2.1).1).trans HX.out.2.2.2.1)
  have HZ := Lib.hid (show G + 1 + 1 + 1 + 1 + 1 + 1 + 1 ≤ w8.heap.size by omega)
  clear h8z h7z hG
  refine wp_region_wait (fun z => ((z.cell? ⟨w.heap.size, 0, none⟩ = some (.int .i64 k1) ∧ z.cell? ⟨w.heap.size, 1, none⟩ = some (.string nb1) ∧ z.cell? ⟨w.heap.size, 2, none⟩ = some (.string mb1) ∧ z.cell? ⟨w.heap.size, 3, none⟩ = some (.int .u64 b1) ∧ z.cell? ⟨w.heap.size, 4, none⟩ = some (.int .i64 v1) ∧ z.cell? ⟨w.heap.size, 5, none⟩ = some (.slice A1 L1 c1)) ∧ (z.cell? ⟨w.heap.size + 1, 0, none⟩ = some (.int .i64 k2) ∧ z.cell? ⟨w.heap.size + 1, 1, none⟩ = some (.string nb2) ∧ z.cell? ⟨w.heap.size + 1, 2, none⟩ = some (.string mb2) ∧ z.cell? ⟨w.heap.size + 1, 3, none⟩ = some (.int .u64 b2) ∧ z.cell? ⟨w.heap.size + 1, 4, none⟩ = some (.int .i64 v2) ∧ z.cell? ⟨w.heap.size + 1, 5, none⟩ = some (.slice A2 L2 c2)) ∧ (z.cell? ⟨w.heap.size + 1 + 1, 0, none⟩ = some (.int .i64 k3) ∧ z.cell? ⟨w.heap.size + 1 + 1, 1, none⟩ = some (.string nb3) ∧ z.cell? ⟨w.heap.size + 1 + 1, 2, none⟩ = some (.string mb3) ∧ z.cell? ⟨w.heap.size + 1 + 1, 3, none⟩ = some (.int .u64 b3) ∧ z.cell? ⟨w.heap.size + 1 + 1, 4, none⟩ = some (.int .i64 v3) ∧ z.cell? ⟨w.heap.size + 1 + 1, 5, none⟩ = some (.slice A3 L3 c3)))) 6 (by kernel_rfl) ?_
  change wpAnyW _ _ _ _ _ _ _ _ _ w8.drew
  have KK := Lib.hid (below_drew' w8)
  generalize w8.drew = u0 at *
  refine wpAnyW_take 6 (i := 0) (v := .agg #[.int .i64 k1, .string nb1, .string mb1, .int .u64 b1, .int .i64 v1, .slice A1 L1 c1]) rfl (by kernel_rfl) (by kernel_rfl) (by kernel_rfl) (by kernel_rfl) (fun c a w h => hqBody (by omega) c a w h) (Or.inl ⟨by rfl, ?_⟩) (HSS.out _ (grown_below KK.out)) ?_
  · intro w5 hSw
    obtain ⟨⟨p0, p1, p2, p3, p4, p5⟩, ⟨q0, q1, q2, q3, q4, q5⟩, ⟨r0, r1, r2, r3, r4, r5⟩⟩ := hSw
    go_simp
  refine wpAnyW_take 6 (i := 1) (v := .agg #[.int .i64 k2, .string nb2, .string mb2, .int .u64 b2, .int .i64 v2, .slice A2 L2 c2]) rfl (by kernel_rfl) (by kernel_rfl) (by kernel_rfl) (by kernel_rfl) (fun c a w h => hqBody (by omega) c a w h) (Or.inl ⟨by rfl, ?_⟩) (HSS.out _ (grown_below KK.out)) ?_
  · intro w5 hSw
    obtain ⟨⟨p0, p1, p2, p3, p4, p5⟩, ⟨q0, q1, q2, q3, q4, q5⟩, ⟨r0, r1, r2, r3, r4, r5⟩⟩ := hSw
    go_simp
  refine wpAnyW_take 6 (i := 2) (v := .agg #[.int .i64 k3, .string nb3, .string mb3, .int .u64 b3, .int .i64 v3, .slice A3 L3 c3]) rfl (by kernel_rfl) (by kernel_rfl) (by kernel_rfl) (by kernel_rfl) (fun c a w h => hqBody (by omega) c a w h) (Or.inl ⟨by rfl, ?_⟩) (HSS.out _ (grown_below KK.out)) ?_
  · intro w5 hSw
    obtain ⟨⟨p0, p1, p2, p3, p4, p5⟩, ⟨q0, q1, q2, q3, q4, q5⟩, ⟨r0, r1, r2, r3, r4, r5⟩⟩ := hSw
    go_simp
  have HFm := Lib.hid (from_any (w := u0) (N := w.heap.size + 1 + 1 + 1) (x := nx) ((KK.out.block _ (Array.getElem?_eq_some_iff.1 HN8.out).1).trans HN8.out))
  rw [show freshV u0.heap.size = .func (.func 60) #[] #[.pointer (some ⟨u0.heap.size, 0, none⟩)] from rfl] at HFm
  refine wpAnyW_one (i := 3) (by kernel_rfl) rfl (fun K hK => ?_)
  go_simp
  (with_reducible refine HFm.out.mono ?_)
  rintro e u1 ⟨rfl, hn1, hb1⟩
  have HN1 := Lib.hid hn1
  have hq0 := KK.out.size
  have HQ0 := Lib.hid hq0
  replace KK := Lib.hid (KK.out.trans (hb1.mono KK.out.size))
  clear hn1 hb1 hq0 HFm
  refine hK.out _ _ (fun _ => HSS.out _ (grown_below KK.out)) ?_
  generalize u0.heap.size = Q at *
  have hw1 := HX8.out.2.2.trans (KK.out.mono HX8.out.2.2.size)
  have HBo := Lib.hid (body_any w0 (.mk k1 n1 m1 b1 v1 ts1) u1 (fun b => b < w.heap.size) (.mk k2 n2 m2 b2 v2 ts2) (.mk k3 n3 m3 b3 v3 ts3) (.slice A1 L1 c1) (.slice A2 L2 c2) (.slice A3 L3 c3) Q (w.heap.size + 1 + 1 + 1) nx (fun b hb => ⟨Nat.lt_of_lt_of_le hb hw1.size, by omega⟩) (TAtP.below HT.out.1 hw1 (fun b hb => hb)) (TAtP.below HT.out.2.1 hw1 (fun b hb => hb)) (TAtP.below HT.out.2.2 hw1 (fun b hb => hb)) HN1.out HCk.out.2.1 (by have := (check_iff.1 HCk.out.1.1).1; have := HCk.out.2.2; omega) HCk.out.1.1 (HU.out.below hw1) (by have := HU.out.bel.size; omega))
  rw [HRR.out.2, valT_mk HM.out.1.1 HM.out.1.2, valT_mk HM.out.2.1.1 HM.out.2.1.2, valT_mk HM.out.2.2.1 HM.out.2.2.2, show freshV Q = .func (.func 60) #[] #[.pointer (some ⟨Q, 0, none⟩)] from rfl] at HBo
  have HW1 := Lib.hid hw1
  clear hw1
  refine wpAnyW_one (i := 4) (by kernel_rfl) rfl (fun K hK => ?_)
  go_simp
  cases RM with
  | error bt =>
    (with_reducible refine HBo.out.mono ?_)
    rintro e u2 hp
    obtain ⟨hg, bb, rfl, hball⟩ := hp.bad
    have hRE := HRR.out.1
    rw [bodyT_bad HRR.out.2] at hRE
    subst hRE
    have hgU := grown_trans (grown_below (r := some (w.heap.size + 1 + 1 + 1)) KK.out) hg
    have hsU := hgU.size
    have hE := blk_ne hgU HX8.out.2.1 (by omega)
    have hRb := HX8.out.1.gro hgU (by omega)
    have hbx := hRb.far (p := ⟨w.heap.size + 1 + 1 + 1 + 1 + 1, 0, none⟩) (by show w.heap.size + 1 + 1 + 1 + 1 ≠ w.heap.size + 1 + 1 + 1 + 1 + 1; omega) (.iface 82 (.pointer (some ⟨bb, 0, none⟩)))
    have hE2 := one_setCell (u := .iface 82 (.pointer (some ⟨bb, 0, none⟩))) hE
    have hbl := BallAt.caught hball hE (.iface 82 (.pointer (some ⟨bb, 0, none⟩)))
    have hbw : Below w.heap.size w (u2.setCell ⟨w.heap.size + 1 + 1 + 1 + 1 + 1, 0, none⟩ (.iface 82 (.pointer (some ⟨bb, 0, none⟩)))) := (HW1.out.grown hg HW1.out.size (fun j e => by injection e with e; omega)).setCell (by show w.heap.size ≤ w.heap.size + 1 + 1 + 1 + 1 + 1; omega) _
    change Leaves _ _ _ _ _ (.panicking _) _
    refine leaves_cons (f := 29) (args := #[.pointer (some ⟨w.heap.size + 1 + 1 + 1 + 1 + 1, 0, none⟩)]) (by simp) (by simp [go_sem]) ?_
    refine (caught_throws (w.heap.size + 1 + 1 + 1 + 1 + 1) bb [] u2 (cell_of_one hE) (free_of_one hE)).mono ?_
    rintro e u' w'' ⟨rfl, rfl, rfl⟩
    obtain ⟨r0, r1, r2, r3, r4, r5⟩ := hbx.cells (nb := ⟨#[]⟩) (mb := ⟨#[]⟩) rfl rfl
    have cE2 := cell_of_one hE2
    simp only [settle, Leaves, List.dropWhile]
    exact ⟨.tuple #[zeroTV, .int .i64 0, .iface 82 (.pointer (some ⟨bb, 0, none⟩))], by simp [results, Tryd.results16, go_sem, r0, r1, r2, r3, r4, r5, cE2, zeroTV], BodyR.mkBad hbw rfl hbl⟩
  | ok p =>
    obtain ⟨a, n'⟩ := p
    obtain ⟨k5, n5, m5, b5, v5, ts5⟩ := a
    obtain ⟨nb5, hnb5⟩ : ∃ nb : ByteArray, (⟨n5.toArray⟩ : ByteArray) = nb := ⟨_, rfl⟩
    obtain ⟨mb5, hmb5⟩ : ∃ mb : ByteArray, (⟨m5.toArray⟩ : ByteArray) = mb := ⟨_, rfl⟩
    obtain ⟨L5, hL5⟩ : ∃ L, ts5.length = L := ⟨_, rfl⟩
    have HL5 := Lib.hid (And.intro hnb5 (And.intro hmb5 hL5))
    clear hnb5 hmb5 hL5
    have HEr := Lib.hid (show errsP (.mk k5 n5 m5 b5 v5 ts5) = 0 from (mkB_mk _ _ _ _ _ _ HRR.out.2).errs names_ok HCk.out.2.1 (check_iff.1 HCk.out.1.1).2 (check_iff.1 HCk.out.1.2.1).2 (check_iff.1 HCk.out.1.2.2).2)
    (with_reducible refine HBo.out.mono ?_)
    rintro e u2 hp
    obtain ⟨A5, c5, rfl, hta, hnu, hg⟩ := hp.letters HL5.out.1 HL5.out.2.1 HL5.out.2.2
    have HGU := Lib.hid (grown_trans (grown_below (r := some (w.heap.size + 1 + 1 + 1)) KK.out) hg)
    have HBU := Lib.hid (show Below w.heap.size w u2 from HW1.out.grown hg HW1.out.size (fun j e => by injection e with e; omega))
    have HT5 := Lib.hid (show TAt u2 u2.heap.size (.mk k5 n5 m5 b5 v5 ts5) (.slice A5 L5 c5) from hta.wide (fun b hb => Grow.lt (fun b hb => Nat.lt_of_lt_of_le hb HW1.out.size) hg.size b hb))
    have HN2 := Lib.hid hnu
    clear hta hnu hg hp
    refine hK.out _ _ (fun _ => HSS.out _ HGU.out) ?_
    refine wpAnyW_one (i := 5) (by kernel_rfl) rfl (fun K hK => ?_)
    go_simp
    by_cases hz : 4000 < nodes (.mk k5 n5 m5 b5 v5 ts5)
    · have hRE := HRR.out.1
      rw [bodyT_big HRR.out.2 hz] at hRE
      subst hRE
      have hwb := whole_big HT5.out hz
      rw [valT_mk HL5.out.1 HL5.out.2.1] at hwb
      (with_reducible refine hwb.mono ?_)
      rintro e u3 ⟨⟨bb, rfl, hball⟩, hb3⟩
      have hgU := grown_trans HGU.out (grown_below hb3)
      have hsU := hgU.size
      have hE := blk_ne hgU HX8.out.2.1 (by omega)
      have hRb := HX8.out.1.gro hgU (by omega)
      have hbx := hRb.far (p := ⟨w.heap.size + 1 + 1 + 1 + 1 + 1, 0, none⟩) (by show w.heap.size + 1 + 1 + 1 + 1 ≠ w.heap.size + 1 + 1 + 1 + 1 + 1; omega) (.iface 82 (.pointer (some ⟨bb, 0, none⟩)))
      have hE2 := one_setCell (u := .iface 82 (.pointer (some ⟨bb, 0, none⟩))) hE
      have hbl := BallAt.caught hball hE (.iface 82 (.pointer (some ⟨bb, 0, none⟩)))
      have hbw : Below w.heap.size w (u3.setCell ⟨w.heap.size + 1 + 1 + 1 + 1 + 1, 0, none⟩ (.iface 82 (.pointer (some ⟨bb, 0, none⟩)))) := (HBU.out.trans (hb3.mono HBU.out.size)).setCell (by show w.heap.size ≤ w.heap.size + 1 + 1 + 1 + 1 + 1; omega) _
      change Leaves _ _ _ _ _ (.panicking _) _
      refine leaves_cons (f := 29) (args := #[.pointer (some ⟨w.heap.size + 1 + 1 + 1 + 1 + 1, 0, none⟩)]) (by simp) (by simp [go_sem]) ?_
      refine (caught_throws (w.heap.size + 1 + 1 + 1 + 1 + 1) bb [] u3 (cell_of_one hE) (free_of_one hE)).mono ?_
      rintro e u' w'' ⟨rfl, rfl, rfl⟩
      obtain ⟨r0, r1, r2, r3, r4, r5⟩ := hbx.cells (nb := ⟨#[]⟩) (mb := ⟨#[]⟩) rfl rfl
      have cE2 := cell_of_one hE2
      simp only [settle, Leaves, List.dropWhile]
      exact ⟨.tuple #[zeroTV, .int .i64 0, .iface 82 (.pointer (some ⟨bb, 0, none⟩))], by simp [results, Tryd.results16, go_sem, r0, r1, r2, r3, r4, r5, cE2, zeroTV], BodyR.mkBad hbw rfl hbl⟩
    · have hRE := HRR.out.1
      rw [bodyT_fit HRR.out.2 hz] at hRE
      subst hRE
      have hwf := own_letters HL5.out.1 HL5.out.2.1 HL5.out.2.2 (whole_fit HT5.out (bare_errs _ HEr.out) hz)
      rw [valT_mk HL5.out.1 HL5.out.2.1] at hwf
      clear hz
      (with_reducible refine hwf.mono ?_)
      rintro e u3 ⟨A6, c6, rfl, ho3, hb3⟩
      have HG3 := Lib.hid (grown_trans HGU.out (grown_below hb3))
      have HO3 := Lib.hid (And.intro ho3 (And.intro (HBU.out.trans (hb3.mono HBU.out.size)) (HN2.out.below hb3)))
      have HR3 := Lib.hid (show TBox u3 (w.heap.size + 1 + 1 + 1 + 1) zeroT (.slice none 0 0) ∧ u3.heap[w.heap.size + 1 + 1 + 1 + 1 + 1]? = some (.cells #[.nilIface] 29 (0, 0)) from ⟨HX8.out.1.gro HG3.out (by omega), blk_ne HG3.out HX8.out.2.1 (by omega)⟩)
      have HZ3 := Lib.hid (show w8.heap.size ≤ u2.heap.size ∧ u2.heap.size ≤ u3.heap.size from ⟨HGU.out.size, hb3.size⟩)
      clear ho3 hb3 hwf
      refine hK.out _ _ (fun _ => HSS.out _ HG3.out) ?_
      refine wpAnyW_one (i := 6) (by kernel_rfl) rfl (fun K hK => ?_)
      obtain ⟨a0, a1, a2, a3, a4, a5⟩ := HR3.out.1.cells rfl rfl
      obtain ⟨e0, e1, e2, e3, e4, e5⟩ := HR3.out.1.frozens
      go_simp
      refine hK.out _ _ (fun h => absurd h (by simp)) ?_
      refine wpAnyW_done (by kernel_rfl) ?_ _
      clear a0 a1 a2 a3 a4 a5 e0 e1 e2 e3 e4 e5
      obtain ⟨hbx, hgr⟩ := HR3.out.1.set6 (k := k5) (b := b5) (v := v5) (n := n5) (m := m5) ts5 (.slice A6 L5 c6) HL5.out.1 HL5.out.2.1
      generalize ((((((u3.setCell ⟨w.heap.size + 1 + 1 + 1 + 1, 0, none⟩ (.int .i64 k5)).setCell ⟨w.heap.size + 1 + 1 + 1 + 1, 1, none⟩ (.string nb5)).setCell ⟨w.heap.size + 1 + 1 + 1 + 1, 2, none⟩ (.string mb5)).setCell ⟨w.heap.size + 1 + 1 + 1 + 1, 3, none⟩ (.int .u64 b5)).setCell ⟨w.heap.size + 1 + 1 + 1 + 1, 4, none⟩ (.int .i64 v5)).setCell ⟨w.heap.size + 1 + 1 + 1 + 1, 5, none⟩ (.slice A6 L5 c6)) = u4 at *
      have h38 := HZ3.out
      have hz8 := HZ.out
      have hgg := HG.out
      have HO4 := Lib.hid (show TOwn u4 (.mk k5 n5 m5 b5 v5 ts5) (.slice A6 L5 c6) w8.heap.size u4.heap.size ∧ Below w.heap.size w u4 ∧ u4.heap[w.heap.size + 1 + 1 + 1]? = some (.cells #[.int .i64 n'] 3 (0, 0)) ∧ u4.heap[w.heap.size + 1 + 1 + 1 + 1 + 1]? = some (.cells #[.nilIface] 29 (0, 0)) from
        ⟨((TOwn.keep _ HO3.out.1 (fun b h1 h2 => hgr.block b h2 (fun e => by injection e with e; omega))).widen hgr.size).lower (by omega), HO3.out.2.1.grown hgr HO3.out.2.1.size (fun j e => by injection e with e; omega), blk_ne hgr HO3.out.2.2.n (by omega), blk_ne hgr HR3.out.2 (by omega)⟩)
      have HX4 := Lib.hid hbx
      clear hgr h38 hz8 hgg hbx
      go_upto_region 8 with fail
      have HS8 := Lib.hid (show ∀ z, TBox z (w.heap.size + 1 + 1 + 1 + 1) (.mk k5 n5 m5 b5 v5 ts5) (.slice A6 L5 c6) → z.heap[w.heap.size + 1 + 1 + 1]? = some (.cells #[.int .i64 n'] 3 (0, 0)) → ((z.cell? ⟨w.heap.size + 1 + 1 + 1 + 1, 0, none⟩ = some (.int .i64 k5) ∧ z.cell? ⟨w.heap.size + 1 + 1 + 1 + 1, 1, none⟩ = some (.string nb5) ∧ z.cell? ⟨w.heap.size + 1 + 1 + 1 + 1, 2, none⟩ = some (.string mb5) ∧ z.cell? ⟨w.heap.size + 1 + 1 + 1 + 1, 3, none⟩ = some (.int .u64 b5) ∧ z.cell? ⟨w.heap.size + 1 + 1 + 1 + 1, 4, none⟩ = some (.int .i64 v5) ∧ z.cell? ⟨w.heap.size + 1 + 1 + 1 + 1, 5, none⟩ = some (.slice A6 L5 c6)) ∧ z.cell? ⟨w.heap.size + 1 + 1 + 1, 0, none⟩ = some (.int .i64 n')) from fun z h1 h2 => ⟨h1.cells HL5.out.1 HL5.out.2.1, cell_of_one h2⟩)
      refine wp_region_wait (fun z => ((z.cell? ⟨w.heap.size + 1 + 1 + 1 + 1, 0, none⟩ = some (.int .i64 k5) ∧ z.cell? ⟨w.heap.size + 1 + 1 + 1 + 1, 1, none⟩ = some (.string nb5) ∧ z.cell? ⟨w.heap.size + 1 + 1 + 1 + 1, 2, none⟩ = some (.string mb5) ∧ z.cell? ⟨w.heap.size + 1 + 1 + 1 + 1, 3, none⟩ = some (.int .u64 b5) ∧ z.cell? ⟨w.heap.size + 1 + 1 + 1 + 1, 4, none⟩ = some (.int .i64 v5) ∧ z.cell? ⟨w.heap.size + 1 + 1 + 1 + 1, 5, none⟩ = some (.slice A6 L5 c6)) ∧ z.cell? ⟨w.heap.size + 1 + 1 + 1, 0, none⟩ = some (.int .i64 n'))) 3 (by kernel_rfl) ?_
      change wpAnyW _ _ _ _ _ _ _ _ _ u4.drew
      have HX5 := Lib.hid (show TBox u4.drew (w.heap.size + 1 + 1 + 1 + 1) (.mk k5 n5 m5 b5 v5 ts5) (.slice A6 L5 c6) from HX4.out)
      have HO5 := Lib.hid (show TOwn u4.drew (.mk k5 n5 m5 b5 v5 ts5) (.slice A6 L5 c6) w8.heap.size u4.drew.heap.size ∧ Below w.heap.size w u4.drew ∧ u4.drew.heap[w.heap.size + 1 + 1 + 1]? = some (.cells #[.int .i64 n'] 3 (0, 0)) ∧ u4.drew.heap[w.heap.size + 1 + 1 + 1 + 1 + 1]? = some (.cells #[.nilIface] 29 (0, 0)) from ⟨TOwn.keep _ HO4.out.1 (fun b _ _ => rfl), HO4.out.2.1.drew, HO4.out.2.2.1, HO4.out.2.2.2⟩)
      generalize u4.drew = v4 at *
      refine wpAnyW_take 2 (i := 0) (v := .agg #[.int .i64 k5, .string nb5, .string mb5, .int .u64 b5, .int .i64 v5, .slice A6 L5 c6]) rfl (by kernel_rfl) (by kernel_rfl) (by kernel_rfl) (by kernel_rfl) (fun c a w h => hqBody (by omega) c a w h) (Or.inl ⟨by rfl, ?_⟩) (HS8.out _ HX5.out HO5.out.2.2.1) ?_
      · intro w5 hSw
        obtain ⟨⟨p0, p1, p2, p3, p4, p5⟩, s2⟩ := hSw
        go_simp
      refine wpAnyW_take 3 (i := 1) (v := .int .i64 n') rfl (by kernel_rfl) (by kernel_rfl) (by kernel_rfl) (by kernel_rfl) (fun c a w h => hqBody (by omega) c a w h) (Or.inl ⟨by rfl, ?_⟩) (HS8.out _ HX5.out HO5.out.2.2.1) ?_
      · intro w5 hSw
        obtain ⟨⟨p0, p1, p2, p3, p4, p5⟩, s2⟩ := hSw
        go_simp
      refine wpAnyW_one (i := 2) (by kernel_rfl) rfl (fun K hK => ?_)
      obtain ⟨a0, a1, a2, a3, a4, a5⟩ := HX5.out.cells HL5.out.1 HL5.out.2.1
      obtain ⟨e0, e1, e2, e3, e4, e5⟩ := HX5.out.frozens
      go_simp
      clear a0 a1 a2 a3 a4 a5 e0 e1 e2 e3 e4 e5
      obtain ⟨hbx, hgr⟩ := HX5.out.set6 (k := k5) (b := b5) (v := v5) (n := n5) (m := m5) ts5 (.slice A6 L5 c6) HL5.out.1 HL5.out.2.1
      have h9s : ∀ z, ((((((v4.setCell ⟨w.heap.size + 1 + 1 + 1 + 1, 0, none⟩ (.int .i64 k5)).setCell ⟨w.heap.size + 1 + 1 + 1 + 1, 1, none⟩ (.string nb5)).setCell ⟨w.heap.size + 1 + 1 + 1 + 1, 2, none⟩ (.string mb5)).setCell ⟨w.heap.size + 1 + 1 + 1 + 1, 3, none⟩ (.int .u64 b5)).setCell ⟨w.heap.size + 1 + 1 + 1 + 1, 4, none⟩ (.int .i64 v5)).setCell ⟨w.heap.size + 1 + 1 + 1 + 1, 5, none⟩ (.slice A6 L5 c6)) = z → TBox z (w.heap.size + 1 + 1 + 1 + 1) (.mk k5 n5 m5 b5 v5 ts5) (.slice A6 L5 c6) ∧ v4.grownBy z (some (w.heap.size + 1 + 1 + 1 + 1)) := fun z e => by rw [← e]; exact ⟨hbx, hgr⟩
      clear hbx hgr
      have HO6 := Lib.hid (show ∀ z, ((((((v4.setCell ⟨w.heap.size + 1 + 1 + 1 + 1, 0, none⟩ (.int .i64 k5)).setCell ⟨w.heap.size + 1 + 1 + 1 + 1, 1, none⟩ (.string nb5)).setCell ⟨w.heap.size + 1 + 1 + 1 + 1, 2, none⟩ (.string mb5)).setCell ⟨w.heap.size + 1 + 1 + 1 + 1, 3, none⟩ (.int .u64 b5)).setCell ⟨w.heap.size + 1 + 1 + 1 + 1, 4, none⟩ (.int .i64 v5)).setCell ⟨w.heap.size + 1 + 1 + 1 + 1, 5, none⟩ (.slice A6 L5 c6)) = z → TBox z (w.heap.size + 1 + 1 + 1 + 1) (.mk k5 n5 m5 b5 v5 ts5) (.slice A6 L5 c6) ∧ TOwn z (.mk k5 n5 m5 b5 v5 ts5) (.slice A6 L5 c6) w8.heap.size z.heap.size ∧ Below w.heap.size w z ∧ z.heap[w.heap.size + 1 + 1 + 1]? = some (.cells #[.int .i64 n'] 3 (0, 0)) ∧ z.heap[w.heap.size + 1 + 1 + 1 + 1 + 1]? = some (.cells #[.nilIface] 29 (0, 0)) from fun z e => by
        obtain ⟨h1, h2⟩ := h9s z e
        have hz8 := HZ.out
        have hgg := HG.out
        exact ⟨h1, (TOwn.keep _ HO5.out.1 (fun b h3 h4 => h2.block b h4 (fun e => by injection e with e; omega))).widen h2.size, HO5.out.2.1.grown h2 HO5.out.2.1.size (fun j e => by injection e with e; omega), blk_ne h2 HO5.out.2.2.1 (by omega), blk_ne h2 HO5.out.2.2.2 (by omega)⟩)
      clear h9s
      refine hK.out _ _ (fun _ => HS8.out _ (HO6.out _ rfl).1 (HO6.out _ rfl).2.2.2.1) ?_
      have H6 := Lib.hid (HO6.out _ rfl)
      clear HO6
      generalize ((((((v4.setCell ⟨w.heap.size + 1 + 1 + 1 + 1, 0, none⟩ (.int .i64 k5)).setCell ⟨w.heap.size + 1 + 1 + 1 + 1, 1, none⟩ (.string nb5)).setCell ⟨w.heap.size + 1 + 1 + 1 + 1, 2, none⟩ (.string mb5)).setCell ⟨w.heap.size + 1 + 1 + 1 + 1, 3, none⟩ (.int .u64 b5)).setCell ⟨w.heap.size + 1 + 1 + 1 + 1, 4, none⟩ (.int .i64 v5)).setCell ⟨w.heap.size + 1 + 1 + 1 + 1, 5, none⟩ (.slice A6 L5 c6)) = v5w at *
      refine wpAnyW_one (i := 3) (by kernel_rfl) rfl (fun K hK => ?_)
      go_simp
      refine hK.out _ _ (fun h => absurd h (by simp)) ?_
      refine wpAnyW_one (i := 4) (by kernel_rfl) rfl (fun K hK => ?_)
      have cE := cell_of_one H6.out.2.2.2.2
      have fE := free_of_one H6.out.2.2.2.2
      go_simp
      refine hK.out _ _ (fun h => absurd h (by simp)) ?_
      refine wpAnyW_done (by kernel_rfl) ?_ _
      clear cE fE
      go_wp2
      have hz8 := HZ.out
      have hgg := HG.out
      have hbx := H6.out.1.far (p := ⟨w.heap.size + 1 + 1 + 1 + 1 + 1, 0, none⟩) (by show w.heap.size + 1 + 1 + 1 + 1 ≠ w.heap.size + 1 + 1 + 1 + 1 + 1; omega) .nilIface
      have hE2 := one_setCell (u := .nilIface) H6.out.2.2.2.2
      have how : TOwn (v5w.setCell ⟨w.heap.size + 1 + 1 + 1 + 1 + 1, 0, none⟩ .nilIface) (.mk k5 n5 m5 b5 v5 ts5) (.slice A6 L5 c6) w.heap.size (v5w.setCell ⟨w.heap.size + 1 + 1 + 1 + 1 + 1, 0, none⟩ .nilIface).heap.size := ((TOwn.keep _ H6.out.2.1 (fun b h3 h4 => Below.heap_setCell _ _ _ b (by show b ≠ w.heap.size + 1 + 1 + 1 + 1 + 1; omega))).widen (by simp [World.setCell])).lower (by omega)
      have hbw : Below w.heap.size w (v5w.setCell ⟨w.heap.size + 1 + 1 + 1 + 1 + 1, 0, none⟩ .nilIface) := H6.out.2.2.1.setCell (by show w.heap.size ≤ w.heap.size + 1 + 1 + 1 + 1 + 1; omega) _
      generalize v5w.setCell ⟨w.heap.size + 1 + 1 + 1 + 1 + 1, 0, none⟩ .nilIface = v6w at *
      change Leaves _ _ _ _ _ .returning _
      refine leaves_cons (f := 29) (args := #[.pointer (some ⟨w.heap.size + 1 + 1 + 1 + 1 + 1, 0, none⟩)]) (by simp) (by simp [go_sem]) ?_
      refine (caught_idle (w.heap.size + 1 + 1 + 1 + 1 + 1) v6w).mono ?_
      rintro e u' w'' ⟨rfl, rfl, rfl⟩
      obtain ⟨r0, r1, r2, r3, r4, r5⟩ := hbx.cells HL5.out.1 HL5.out.2.1
      have cE2 := cell_of_one hE2
      simp only [settle, Leaves]
      exact ⟨.tuple #[.agg #[.int .i64 k5, .string nb5, .string mb5, .int .u64 b5, .int .i64 v5, .slice A6 L5 c6], .int .i64 n', .nilIface], by simp [results, Tryd.results16, go_sem, r0, r1, r2, r3, r4, r5, cE2], BodyR.mkOk hbw (by rw [valT_mk HL5.out.1 HL5.out.2.1]) how⟩
end Go.Proofs.YtgfeainpeplphaaDoor

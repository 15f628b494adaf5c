import Derived.Test.YtgfeainpeplphaaDoorJb
namespace Go.Proofs.YtgfeainpeplphaaDoor
open Go.RowKit Hb Ht
set_option linter.unusedVariables false
set_option linter.unusedSimpArgs false
attribute [local go_sem] Oper.semAt_some
/-! ### rows that are built, lists, endings -/
theorem RowB.rowP {w : World} {B n c : Nat} {A : Option Addr} {ps : List (Tm × Value)} (h : RowB w B A n c ps) : RowP w (fun b => B ≤ b ∧ b < w.heap.size) A n ps := by
  refine ⟨h.len, fun p hp => (h.kid p hp).wide (fun b hb => hb.1), fun hn => ?_⟩
  rcases h.block with ⟨_, h0⟩ | ⟨g, rfl, hB, hg, _⟩
  · omega
  · refine ⟨g, 0, rfl, hg, fun j u hj => ?_⟩
    have h9 := World.ownsRow.cells h.own (g := g) rfl _ _ hj
    rw [add_zero'] at h9
    rw [Nat.zero_add]
    exact h9
theorem RowB.lower' {w : World} {B B' n c : Nat} {A : Option Addr} {ps : List (Tm × Value)} (h : RowB w B A n c ps) (hB : B' ≤ B) : RowB w B' A n c ps := (TRow.lower h hB).wide (fun b hb => ⟨Nat.le_trans hB hb.1, hb.2⟩)
theorem built {w : World} {P : Nat → Prop} {ps : List (Tm × Value)} {cs : Array Value} {s : List UInt8} {n : Nat} (hcs : cs = (fl6 ps).toArray) (hn : ps.length = n) (hk : ∀ p ∈ ps, TAtP w P p.1 p.2) (hP : ∀ b, P b → b < w.heap.size) (hn2 : n ≤ maxArgs) (hs : s.length ≤ maxLen) :
    TAtP (w.alloc (.cells cs 25)) (fun b => P b ∨ b = w.heap.size) (cmpT s (ps.map (·.1))) (.slice (some ⟨w.heap.size, 0, none⟩) n n) := by
  subst hcs hn
  have hb : Below w.heap.size w (w.alloc (.cells (fl6 ps).toArray 25)) := (Below.refl _ _).alloc (Nat.le_refl _) _
  have hr := RowP.block (w := w.alloc (.cells (fl6 ps).toArray 25)) (P := fun b => P b ∨ b = w.heap.size) (g := w.heap.size) (ps := ps) (heap_alloc_new w _) (fun p hp => TAtP.keep _ (hk p hp) (fun b hb2 => ⟨.inl hb2, hb.block b (hP b hb2)⟩))
  exact hr.term (t := cmpT s (ps.map (·.1))) (fun g o _ e => by injection e with e; injection e with e1 e2; exact .inr e1.symm) rfl (Nat.le_refl _) (by unfold maxArgs at hn2; unfold maxLen; omega) hn2 (okF_cmp hs)
theorem mem2 {α : Type} {p : α → Prop} {a b : α} (ha : p a) (hb : p b) : ∀ x ∈ [a, b], p x := by
  intro x hx
  simp only [List.mem_cons, List.not_mem_nil, or_false] at hx
  rcases hx with rfl | rfl
  · exact ha
  · exact hb
theorem mem1 {α : Type} {p : α → Prop} {a : α} (ha : p a) : ∀ x ∈ [a], p x := by
  intro x hx
  simp only [List.mem_cons, List.not_mem_nil, or_false] at hx
  rcases hx with rfl
  exact ha
theorem isNil_eq {k v b : Int} {n m : List UInt8} {ts : List Tm} : isNil (.mk k n m b v ts) = (decide (k = 2) && decide (n = sNil)) := rfl
def ListPost (w : World) (t : Tm) (e : Ending) (w' : World) : Prop :=
  ∃ A n c ps, e = .returned (.tuple #[.slice A n c, .bool (isNil (elems t).2)]) ∧ RowB w' w.heap.size A n c ps ∧ ps.map (·.1) = (elems t).1 ∧ n ≤ 4000 ∧ Below w.heap.size w w'
theorem below_drewN (w : World) (n : Nat) : Below w.heap.size w (w.drewN n) := belowN (Below.refl _ _) n
set_option maxRecDepth 100000 in
set_option maxHeartbeats 8000000 in
theorem list_any {w0 w : World} {t : Tm} {sl : Value} (h : TAt w w.heap.size t sl) (hU : UOk w0 w) (hc : checkP t = 0) : Calls Tryd.prog 34 #[valT t sl] w (ListPost w t) := by
  unfold ListPost
  obtain ⟨T, hT⟩ : ∃ T, t = T := ⟨_, rfl⟩
  obtain ⟨k, n, m, b, v, ts, nb, mb, A, c, hT2, rfl, hnb, hmb, hl1, hl2, hl3, hv, hs1, hs2⟩ := h.letters
  rw [hT] at hT2 hv h
  rw [hT, hv]
  obtain ⟨L, hL⟩ : ∃ L, ts.length = L := ⟨_, rfl⟩
  rw [hL] at h hv ⊢
  have hX := TBox.new (ts := ts) w (k := k) (b := b) (v := v) (sl := .slice A L c) hnb hmb
  obtain ⟨x0, x1, x2, x3, x4, x5⟩ := hX.cells hnb hmb
  have hB : Below w.heap.size w (w.alloc (.cells #[.int .i64 k, .string nb, .string mb, .int .u64 b, .int .i64 v, .slice A L c] 25)) := (Below.refl _ _).alloc (Nat.le_refl _) _
  have HC := Lib.hid (Elements_any (h.to hB hB.size) (hU.below hB) (by rw [← hT]; exact hc))
  rw [hv] at HC
  have HB := Lib.hid hB
  clear h hv hX hnb hmb hB hT hT2 hs1 hs2
  go_enter Tryd.func34, Tryd.ntmps34
  go_wp2_with fail
  (with_reducible refine HC.out.mono ?_)
  rintro e w1 ⟨A1, n1, c1, ps, sl', rfl, hr, hps, hta, hn, hb1⟩
  obtain ⟨k', n', m', b', v', ts', nb', mb', A', c', hE, rfl, hnb', hmb', hm1, hm2, hm3, hv', hs1', hs2'⟩ := hta.letters
  have HE := Lib.hid (show isNil (elems T).2 = (decide (k' = 2) && decide (n' = sNil)) from by rw [hE]; rfl)
  rw [hv']
  have HR := Lib.hid (And.intro hr (And.intro hps (And.intro hn (HB.out.trans (hb1.mono HB.out.size)))))
  have hnl : nb'.toList = n' := by rw [ByteArray.toList_eq, ← hnb']
  have hX := TBox.new (ts := ts') w1 (k := k') (b := b') (v := v') (sl := .slice A' ts'.length c') hnb' hmb'
  obtain ⟨y0, y1, y2, y3, y4, y5⟩ := hX.cells hnb' hmb'
  have hb2 : Below w1.heap.size w1 (w1.alloc (.cells #[.int .i64 k', .string nb', .string mb', .int .u64 b', .int .i64 v', .slice A' ts'.length c'] 25)) := (Below.refl _ _).alloc (Nat.le_refl _) _
  have HE2 := Lib.hid (show ∀ q, RowB ((w1.alloc (.cells #[.int .i64 k', .string nb', .string mb', .int .u64 b', .int .i64 v', .slice A' ts'.length c'] 25)).drewN q) w.heap.size A1 n1 c1 ps ∧ Below w.heap.size w ((w1.alloc (.cells #[.int .i64 k', .string nb', .string mb', .int .u64 b', .int .i64 v', .slice A' ts'.length c'] 25)).drewN q) from fun q =>
    ⟨(RowB.below (RowB.lower' HR.out.1 HB.out.size) (belowN hb2 q)), HR.out.2.2.2.trans ((belowN hb2 q).mono HR.out.2.2.2.size)⟩)
  generalize ts'.length = q' at *
  clear hr hps hta hn hb1 hE hnb' hmb' hv' hs1' hs2' hX hb2
  by_cases h1 : k' = 2
  · subst h1
    by_cases h2 : n' = sNil
    · have s1 : (nb'.toList == [91, 93]) = true := by rw [hnl, h2]; rfl
      have HF := Lib.hid (show isNil (elems T).2 = true from by rw [HE.out, decide_eq_true h2]; rfl)
      clear h2 hnl
      go_upto_region 2 with fail
      go_quiet (fail)
      go_wp2
      go_ret2
      exact ⟨A1, n1, c1, ps, by rw [HF.out]; rfl, (HE2.out _).1, HR.out.2.1, HR.out.2.2.1, (HE2.out _).2⟩
    · have s1 : (nb'.toList == [91, 93]) = false := by rw [hnl]; exact beq_eq_false_iff_ne.2 h2
      have HF := Lib.hid (show isNil (elems T).2 = false from by rw [HE.out, decide_eq_false h2]; rfl)
      clear h2 hnl
      go_upto_region 2 with fail
      go_quiet (fail)
      go_wp2
      go_ret2
      exact ⟨A1, n1, c1, ps, by rw [HF.out]; rfl, (HE2.out _).1, HR.out.2.1, HR.out.2.2.1, (HE2.out _).2⟩
  · have s0 : (k' == 2) = false := beq_eq_false_iff_ne.2 h1
    have HF := Lib.hid (show isNil (elems T).2 = false from by rw [HE.out, decide_eq_false h1]; rfl)
    clear h1 hnl
    go_upto_region 2 with fail
    go_quiet (fail)
    go_wp2
    go_ret2
    exact ⟨A1, n1, c1, ps, by rw [HF.out]; rfl, (HE2.out _).1, HR.out.2.1, HR.out.2.2.1, (HE2.out _).2⟩
set_option maxRecDepth 100000 in
set_option maxHeartbeats 8000000 in
theorem rlist_any {w0 w : World} {t : Tm} {sl : Value} (h : TAt w w.heap.size t sl) (hz : sz t ≤ 4000) : Calls Tryd.prog 46 #[valT t sl] w (ListPost w t) := by
  unfold ListPost
  obtain ⟨T, hT⟩ : ∃ T, t = T := ⟨_, rfl⟩
  obtain ⟨k, n, m, b, v, ts, nb, mb, A, c, hT2, rfl, hnb, hmb, hl1, hl2, hl3, hv, hs1, hs2⟩ := h.letters
  rw [hT] at hT2 hv h
  rw [hT, hv]
  obtain ⟨L, hL⟩ : ∃ L, ts.length = L := ⟨_, rfl⟩
  rw [hL] at h hv ⊢
  have hX := TBox.new (ts := ts) w (k := k) (b := b) (v := v) (sl := .slice A L c) hnb hmb
  obtain ⟨x0, x1, x2, x3, x4, x5⟩ := hX.cells hnb hmb
  have hB : Below w.heap.size w (w.alloc (.cells #[.int .i64 k, .string nb, .string mb, .int .u64 b, .int .i64 v, .slice A L c] 25)) := (Below.refl _ _).alloc (Nat.le_refl _) _
  have HC := Lib.hid (rElements_any (w0 := w0) (h.to hB hB.size) (by rw [← hT]; exact hz))
  rw [hv] at HC
  have HB := Lib.hid hB
  clear h hv hX hnb hmb hB hT hT2 hs1 hs2
  go_enter Tryd.func46, Tryd.ntmps46
  go_wp2_with fail
  (with_reducible refine HC.out.mono ?_)
  rintro e w1 ⟨A1, n1, c1, ps, sl', rfl, hr, hps, hta, hn, hb1⟩
  obtain ⟨k', n', m', b', v', ts', nb', mb', A', c', hE, rfl, hnb', hmb', hm1, hm2, hm3, hv', hs1', hs2'⟩ := hta.letters
  have HE := Lib.hid (show isNil (elems T).2 = (decide (k' = 2) && decide (n' = sNil)) from by rw [hE]; rfl)
  rw [hv']
  have HR := Lib.hid (And.intro hr (And.intro hps (And.intro hn (HB.out.trans (hb1.mono HB.out.size)))))
  have hnl : nb'.toList = n' := by rw [ByteArray.toList_eq, ← hnb']
  have hX := TBox.new (ts := ts') w1 (k := k') (b := b') (v := v') (sl := .slice A' ts'.length c') hnb' hmb'
  obtain ⟨y0, y1, y2, y3, y4, y5⟩ := hX.cells hnb' hmb'
  have hb2 : Below w1.heap.size w1 (w1.alloc (.cells #[.int .i64 k', .string nb', .string mb', .int .u64 b', .int .i64 v', .slice A' ts'.length c'] 25)) := (Below.refl _ _).alloc (Nat.le_refl _) _
  have HE2 := Lib.hid (show ∀ q, RowB ((w1.alloc (.cells #[.int .i64 k', .string nb', .string mb', .int .u64 b', .int .i64 v', .slice A' ts'.length c'] 25)).drewN q) w.heap.size A1 n1 c1 ps ∧ Below w.heap.size w ((w1.alloc (.cells #[.int .i64 k', .string nb', .string mb', .int .u64 b', .int .i64 v', .slice A' ts'.length c'] 25)).drewN q) from fun q =>
    ⟨(RowB.below (RowB.lower' HR.out.1 HB.out.size) (belowN hb2 q)), HR.out.2.2.2.trans ((belowN hb2 q).mono HR.out.2.2.2.size)⟩)
  generalize ts'.length = q' at *
  clear hr hps hta hn hb1 hE hnb' hmb' hv' hs1' hs2' hX hb2
  by_cases h1 : k' = 2
  · subst h1
    by_cases h2 : n' = sNil
    · have s1 : (nb'.toList == [91, 93]) = true := by rw [hnl, h2]; rfl
      have HF := Lib.hid (show isNil (elems T).2 = true from by rw [HE.out, decide_eq_true h2]; rfl)
      clear h2 hnl
      go_upto_region 2 with fail
      go_quiet (fail)
      go_wp2
      go_ret2
      exact ⟨A1, n1, c1, ps, by rw [HF.out]; rfl, (HE2.out _).1, HR.out.2.1, HR.out.2.2.1, (HE2.out _).2⟩
    · have s1 : (nb'.toList == [91, 93]) = false := by rw [hnl]; exact beq_eq_false_iff_ne.2 h2
      have HF := Lib.hid (show isNil (elems T).2 = false from by rw [HE.out, decide_eq_false h2]; rfl)
      clear h2 hnl
      go_upto_region 2 with fail
      go_quiet (fail)
      go_wp2
      go_ret2
      exact ⟨A1, n1, c1, ps, by rw [HF.out]; rfl, (HE2.out _).1, HR.out.2.1, HR.out.2.2.1, (HE2.out _).2⟩
  · have s0 : (k' == 2) = false := beq_eq_false_iff_ne.2 h1
    have HF := Lib.hid (show isNil (elems T).2 = false from by rw [HE.out, decide_eq_false h1]; rfl)
    clear h1 hnl
    go_upto_region 2 with fail
    go_quiet (fail)
    go_wp2
    go_ret2
    exact ⟨A1, n1, c1, ps, by rw [HF.out]; rfl, (HE2.out _).1, HR.out.2.1, HR.out.2.2.1, (HE2.out _).2⟩
end Go.Proofs.YtgfeainpeplphaaDoor

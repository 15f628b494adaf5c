import Derived.Test.YtpikjceodmepiaaGreatDoorFab
set_option linter.unusedVariables false
set_option linter.unusedSimpArgs false
namespace Ht
open Go Go.RowKit Hb
theorem TAtP.wide {w : World} {P Q : Nat → Prop} {t : Tm} {sl : Value} (h : TAtP w P t sl) (hP : ∀ b, P b → Q b) : TAtP w Q t sl := TAtP.keep t h (fun b hp => ⟨hP b hp, rfl⟩)
end Ht
namespace Go.Proofs.YtpikjceodmepiaaGreatDoor
open Go.RowKit Hb Hf Ht
set_option linter.unusedVariables false
set_option linter.unusedSimpArgs false
attribute [local go_sem] Oper.semAt_some
/-! ### of, end, bound -/
def zeroT : Tm := .mk 0 [] [] 0 0 []
def Grow (P : Nat → Prop) (w w' : World) (b : Nat) : Prop := P b ∨ (w.heap.size ≤ b ∧ b < w'.heap.size)
theorem TBox.frozen {w : World} {g : Nat} {t : Tm} {sl : Value} (h : TBox w g t sl) (j : Nat) : w.frozen? ⟨g, j, none⟩ = false := by
  unfold TBox at h
  simp [World.frozen?, h]
theorem TBox.far {w : World} {g : Nat} {t : Tm} {sl : Value} (h : TBox w g t sl) {p : Addr} (hp : g ≠ p.block) (u : Value) : TBox (w.setCell p u) g t sl := (Below.heap_setCell w p u g hp).trans h
theorem TBox.args {w : World} {g : Nat} {t : Tm} {sl : Value} (h : TBox w g t sl) (u : Value) : TBox (w.setCell ⟨g, 5, none⟩ u) g t u := by
  unfold TBox at h ⊢
  simp [World.setCell, Array.getElem?_modify, h, Ht.cells6]
/-- a whole term is stored -/
theorem TBox.set6 {w : World} {g : Nat} {t0 : Tm} {sl0 : Value} (h : TBox w g t0 sl0) {k v b : Int} {n m : List UInt8} (ts : List Tm) (sl : Value) {nb mb : ByteArray} (hn : (⟨n.toArray⟩ : ByteArray) = nb) (hm : (⟨m.toArray⟩ : ByteArray) = mb) :
    TBox ((((((w.setCell ⟨g, 0, none⟩ (.int .i64 k)).setCell ⟨g, 1, none⟩ (.string nb)).setCell ⟨g, 2, none⟩ (.string mb)).setCell ⟨g, 3, none⟩ (.int .u64 b)).setCell ⟨g, 4, none⟩ (.int .i64 v)).setCell ⟨g, 5, none⟩ sl) g (.mk k n m b v ts) sl ∧
      w.grownBy ((((((w.setCell ⟨g, 0, none⟩ (.int .i64 k)).setCell ⟨g, 1, none⟩ (.string nb)).setCell ⟨g, 2, none⟩ (.string mb)).setCell ⟨g, 3, none⟩ (.int .u64 b)).setCell ⟨g, 4, none⟩ (.int .i64 v)).setCell ⟨g, 5, none⟩ sl) (some g) := by
  subst hn hm
  constructor
  · unfold TBox at h ⊢
    simp [World.setCell, Array.getElem?_modify, h, Ht.cells6, Tm.k, Tm.n, Tm.m, Tm.b, Tm.v]
  · exact gb_setCell (gb_setCell (gb_setCell (gb_setCell (gb_setCell (gb_setCell (gb_refl w (some g)) 0 _) 1 _) 2 _) 3 _) 4 _) 5 _
theorem TBox.frozens {w : World} {g : Nat} {t : Tm} {sl : Value} (h : TBox w g t sl) : w.frozen? ⟨g, 0, none⟩ = false ∧ w.frozen? ⟨g, 1, none⟩ = false ∧ w.frozen? ⟨g, 2, none⟩ = false ∧ w.frozen? ⟨g, 3, none⟩ = false ∧ w.frozen? ⟨g, 4, none⟩ = false ∧ w.frozen? ⟨g, 5, none⟩ = false :=
  ⟨h.frozen 0, h.frozen 1, h.frozen 2, h.frozen 3, h.frozen 4, h.frozen 5⟩
/-- an element's cells, its value -/
def TmPost (w : World) (P : Nat → Prop) (t : Tm) (e : Ending) (w' : World) : Prop := ∃ sl, e = .returned (valT t sl) ∧ TAtP w' (Grow P w w') t sl ∧ Below w.heap.size w w'
theorem TAtP.leaf (w : World) (P : Nat → Prop) {t : Tm} {A : Option Addr} {c : Nat} (h : t.as = []) (hc : c ≤ maxLen) (ho : okF t) : TAtP w P t (.slice A 0 c) := by
  rw [TAtP.iff]
  refine ⟨A, c, by rw [h]; rfl, by rw [h]; exact Nat.zero_le _, hc, by rw [h]; exact Nat.zero_le _, ho, fun hne => absurd h hne⟩
set_option maxRecDepth 100000 in
set_option maxHeartbeats 2000000 in
theorem of_ok {w : World} {P : Nat → Prop} {ta tb : Tm} {sa sb : Value} {s : List UInt8} {nb : ByteArray} (ha : TAtP w P ta sa) (hb : TAtP w P tb sb) (hP : ∀ b, P b → b < w.heap.size) (hs : (⟨s.toArray⟩ : ByteArray) = nb) (hl : s.length ≤ maxLen) :
    Calls Tryz.prog 36 #[.string nb, valT ta sa, valT tb sb] w (TmPost w P (cmpT s [ta, tb])) := by
  obtain ⟨k1, nl1, ml1, b1, v1, ts1, nb1, mb1, A1, c1, rfl, rfl, hnb1, hmb1, hl1, hl2, hl3, hv1, _, _⟩ := ha.letters
  obtain ⟨k2, nl2, ml2, b2, v2, ts2, nb2, mb2, A2, c2, rfl, rfl, hnb2, hmb2, hm1, hm2, hm3, hv2, _, _⟩ := hb.letters
  rw [hv1, hv2]
  obtain ⟨q1, hq1⟩ : ∃ q, ts1.length = q := ⟨_, rfl⟩
  obtain ⟨q2, hq2⟩ : ∃ q, ts2.length = q := ⟨_, rfl⟩
  rw [hq1] at ha ⊢
  rw [hq2] at hb ⊢
  obtain ⟨W1, hW1⟩ : ∃ W1, w.alloc (.cells #[.int .i64 k1, .string nb1, .string mb1, .int .u64 b1, .int .i64 v1, .slice A1 q1 c1] 26) = W1 := ⟨_, rfl⟩
  obtain ⟨W2, hW2⟩ : ∃ W2, W1.alloc (.cells #[.int .i64 k2, .string nb2, .string mb2, .int .u64 b2, .int .i64 v2, .slice A2 q2 c2] 26) = W2 := ⟨_, rfl⟩
  obtain ⟨W3, hW3⟩ : ∃ W3, W2.alloc (.cells #[.int .i64 5, .string nb, .string ⟨#[]⟩, .int .u64 0, .int .i64 0, .slice (some ⟨w.heap.size + 1 + 1 + 1, 0, none⟩) 2 2] 26) = W3 := ⟨_, rfl⟩
  obtain ⟨W4, hW4⟩ : ∃ W4, W3.alloc (.cells #[.int .i64 k1, .string nb1, .string mb1, .int .u64 b1, .int .i64 v1, .slice A1 q1 c1, .int .i64 k2, .string nb2, .string mb2, .int .u64 b2, .int .i64 v2, .slice A2 q2 c2] 26) = W4 := ⟨_, rfl⟩
  have h1 : Below w.heap.size w W1 := by rw [← hW1]; exact (Below.refl _ _).alloc (Nat.le_refl _) _
  have s1 : W1.heap.size = w.heap.size + 1 := by rw [← hW1]; simp
  have h2 : Below W1.heap.size W1 W2 := by rw [← hW2]; exact (Below.refl _ _).alloc (Nat.le_refl _) _
  have s2 : W2.heap.size = W1.heap.size + 1 := by rw [← hW2]; simp
  have h3 : Below W2.heap.size W2 W3 := by rw [← hW3]; exact (Below.refl _ _).alloc (Nat.le_refl _) _
  have s3 : W3.heap.size = W2.heap.size + 1 := by rw [← hW3]; simp
  have h4 : Below W3.heap.size W3 W4 := by rw [← hW4]; exact (Below.refl _ _).alloc (Nat.le_refl _) _
  have s4 : W4.heap.size = W3.heap.size + 1 := by rw [← hW4]; simp
  have s31 : W3.heap.size = w.heap.size + 1 + 1 + 1 := by omega
  have hX1 : TBox W1 w.heap.size (.mk k1 nl1 ml1 b1 v1 ts1) (.slice A1 q1 c1) := by rw [← hW1]; exact TBox.new w hnb1 hmb1
  have hX2 : TBox W2 W1.heap.size (.mk k2 nl2 ml2 b2 v2 ts2) (.slice A2 q2 c2) := by rw [← hW2]; exact TBox.new W1 hnb2 hmb2
  have hX3 : TBox W3 W2.heap.size (cmpT s [.mk k1 nl1 ml1 b1 v1 ts1, .mk k2 nl2 ml2 b2 v2 ts2]) (.slice (some ⟨w.heap.size + 1 + 1 + 1, 0, none⟩) 2 2) := by rw [← hW3]; exact TBox.new W2 hs rfl
  have hX0 : TBox (W2.alloc (.cells #[.int .i64 0, .string ⟨#[]⟩, .string ⟨#[]⟩, .int .u64 0, .int .i64 0, .slice none 0 0] 26)) W2.heap.size zeroT (.slice none 0 0) := TBox.new W2 rfl rfl
  have h3' : Below W2.heap.size W2 (W2.alloc (.cells #[.int .i64 0, .string ⟨#[]⟩, .string ⟨#[]⟩, .int .u64 0, .int .i64 0, .slice none 0 0] 26)) := (Below.refl _ _).alloc (Nat.le_refl _) _
  have hX1' := (hX1.below h2).below h3'
  have hX2' := hX2.below h3'
  have hb12 := h1.trans ((h2.trans ((h3.trans (h4.mono (by omega))).mono (by omega))).mono (by omega))
  have hrow : RowP W4 P (some ⟨W3.heap.size, 0, none⟩) 2 [((.mk k1 nl1 ml1 b1 v1 ts1 : Tm), Value.slice A1 q1 c1), ((.mk k2 nl2 ml2 b2 v2 ts2 : Tm), Value.slice A2 q2 c2)] := by
    refine RowP.block (ps := [((.mk k1 nl1 ml1 b1 v1 ts1 : Tm), Value.slice A1 q1 c1), ((.mk k2 nl2 ml2 b2 v2 ts2 : Tm), Value.slice A2 q2 c2)]) ?_ (fun p hp => ?_)
    · rw [← hW4, ← hnb1, ← hmb1, ← hnb2, ← hmb2]
      exact heap_alloc_new W3 _
    · simp only [List.mem_cons, List.not_mem_nil, or_false] at hp
      rcases hp with rfl | rfl
      · exact ha.below hb12 hP
      · exact hb.below hb12 hP
  have ht : TAtP W4 (Grow P w W4) (cmpT s [.mk k1 nl1 ml1 b1 v1 ts1, .mk k2 nl2 ml2 b2 v2 ts2]) (.slice (some ⟨W3.heap.size, 0, none⟩) 2 2) :=
    RowP.term (ps := [((.mk k1 nl1 ml1 b1 v1 ts1 : Tm), Value.slice A1 q1 c1), ((.mk k2 nl2 ml2 b2 v2 ts2 : Tm), Value.slice A2 q2 c2)]) ⟨hrow.1, fun p hp => (hrow.2.1 p hp).wide (fun b hb => .inl hb), hrow.2.2⟩ (fun g o _ e => by injection e with e; injection e with e; exact .inr ⟨by omega, by omega⟩) rfl (by omega) (by unfold maxLen; omega) (by unfold maxArgs; omega) (okF_cmp hl)
  rw [s31] at ht
  have HK := Lib.hid (show TmPost w P (cmpT s [.mk k1 nl1 ml1 b1 v1 ts1, .mk k2 nl2 ml2 b2 v2 ts2]) (.returned (.agg #[.int .i64 5, .string nb, .string ⟨#[]⟩, .int .u64 0, .int .i64 0, .slice (some ⟨w.heap.size + 1 + 1 + 1, 0, none⟩) 2 2])) W4 from
    ⟨.slice (some ⟨w.heap.size + 1 + 1 + 1, 0, none⟩) 2 2, by rw [← hs]; rfl, ht, hb12⟩)
  have hX4 := hX3.below h4
  rw [s2, s1] at hX4
  have HX4 := Lib.hid hX4
  rw [s2, s1] at hX0
  rw [s1] at hX2'
  obtain ⟨x0, x1, x2, x3, x4, x5⟩ := hX1'.cells hnb1 hmb1
  obtain ⟨y0, y1, y2, y3, y4, y5⟩ := hX2'.cells hnb2 hmb2
  obtain ⟨z0, z1, z2, z3, z4, z5⟩ := hX0.frozens
  subst hW4 hW3 hW2 hW1
  clear ha hb h1 h2 h3 h4 h3' s1 s2 s3 s4 s31 hX1 hX2 hX3 hX0 hX1' hX2' hX4 hb12 hrow hnb1 hmb1 hnb2 hmb2 hq1 hq2 hv1 hv2 ht
  go_enter Tryz.func36, Tryz.ntmps36
  go_wp2
  obtain ⟨r0, r1, r2, r3, r4, r5⟩ := HX4.out.cells (nb := nb) (mb := ⟨#[]⟩) hs rfl
  exact bodyPost_ret (v := .agg #[.int .i64 5, .string nb, .string ⟨#[]⟩, .int .u64 0, .int .i64 0, .slice (some ⟨w.heap.size + 1 + 1 + 1, 0, none⟩) 2 2]) (by simp [results, Tryz.results36, go_sem, r0, r1, r2, r3, r4, r5]) rfl HK.out
def EndTPost (w : World) (t : Tm) (e : Ending) (w' : World) : Prop := e = .returned (valT t (.slice none 0 0)) ∧ Below w.heap.size w w'
set_option maxRecDepth 100000 in
set_option maxHeartbeats 2000000 in
theorem end_ok {b : Bd} {P : Nat → Prop} {w : World} (hb : b.At w P) (hP : ∀ x, P x → x < w.heap.size) (ht : b.Tri) (hn : b.n ≤ 128) :
    Calls Tryz.prog 37 #[b.v] w (EndTPost w (endT b.ed)) := by
  unfold Bd.Tri at ht
  rcases ht with h | h | h
  · rw [Bd.ed_lo (by omega)]
    obtain ⟨bi, bg, bA, bn, bc, bl⟩ := b
    simp only at h
    subst h
    have e1 := (EBox.new w ⟨-1, bg, bA, bn, bc, bl⟩).below (w' := (w.alloc (.cells #[.int .i64 (-1), .bool bg, .slice bA bn bc] 67)).alloc (.cells #[.int .i64 0, .string ⟨#[]⟩, .string ⟨#[]⟩, .int .u64 0, .int .i64 0, .slice none 0 0] 26)) ((Below.refl _ _).alloc (Nat.le_refl _) _)
    obtain ⟨x0, x1, x2⟩ := e1.cells
    have hz := TBox.new (w.alloc (.cells #[.int .i64 (-1), .bool bg, .slice bA bn bc] 67)) (k := 0) (v := 0) (b := 0) (n := []) (m := []) (ts := []) (sl := .slice none 0 0) (nb := ⟨#[]⟩) (mb := ⟨#[]⟩) rfl rfl
    have hx := TBox.new (w.alloc (.cells #[.int .i64 (-1), .bool bg, .slice bA bn bc] 67)) (k := 2) (v := 0) (b := 0) (n := sInf) (m := []) (ts := []) (sl := .slice none 0 0) (nb := ⟨#[105, 110, 102]⟩) (mb := ⟨#[]⟩) rfl rfl
    rw [World.size_alloc] at hz hx
    obtain ⟨z0, z1, z2, z3, z4, z5⟩ := hz.frozens
    have HX := Lib.hid hx
    have HB := Lib.hid (show Below w.heap.size w ((w.alloc (.cells #[.int .i64 (-1), .bool bg, .slice bA bn bc] 67)).alloc (.cells #[.int .i64 2, .string ⟨#[105, 110, 102]⟩, .string ⟨#[]⟩, .int .u64 0, .int .i64 0, .slice none 0 0] 26)) from ((Below.refl _ _).alloc (Nat.le_refl _) _).alloc (by simp) _)
    simp only [Bd.v, Bd.vals] at x0 x1 x2 ⊢
    clear hb hn e1 hz hx
    go_enter Tryz.func37, Tryz.ntmps37
    go_wp2
    obtain ⟨r0, r1, r2, r3, r4, r5⟩ := HX.out.cells (nb := ⟨#[105, 110, 102]⟩) (mb := ⟨#[]⟩) rfl rfl
    exact bodyPost_ret (v := .agg #[.int .i64 2, .string ⟨#[105, 110, 102]⟩, .string ⟨#[]⟩, .int .u64 0, .int .i64 0, .slice none 0 0]) (by simp [results, Tryz.results37, go_sem, r0, r1, r2, r3, r4, r5]) rfl ⟨rfl, HB.out⟩
  · rw [Bd.ed_zero h]
    obtain ⟨bi, bg, bA, bn, bc, bl⟩ := b
    simp only at h hn
    subst h
    obtain ⟨z, hz⟩ : ∃ z, ival bg bl = z := ⟨_, rfl⟩
    have HTl := Lib.hid (show tooLong z = false from short_sz (Nat.le_trans (show (digs W z.natAbs).length ≤ bn from by
      refine digs_length_le (by decide) ?_
      have h1 := nv_lt hb.lim.dig
      have h2 := hb.lim.len
      simp only at h1 h2
      rw [h2] at h1
      rw [← hz]
      unfold ival
      split
      · rw [Int.natAbs_neg, Int.natAbs_natCast]; exact h1
      · rw [Int.natAbs_natCast]; exact h1) hn))
    have hzz : Bd.z ⟨0, bg, bA, bn, bc, bl⟩ = z := hz
    rw [hzz]
    have hB2 : Below w.heap.size w ((w.alloc (.cells #[.int .i64 0, .bool bg, .slice bA bn bc] 67)).alloc (.cells #[.int .i64 0, .string ⟨#[]⟩, .string ⟨#[]⟩, .int .u64 0, .int .i64 0, .slice none 0 0] 26)) := ((Below.refl _ _).alloc (Nat.le_refl _) _).alloc (by simp) _
    obtain ⟨st, hst⟩ : ∃ st : ByteArray, (⟨(decB z).toArray⟩ : ByteArray) = st := ⟨_, rfl⟩
    have HT := Lib.hid (show Calls Tryz.prog 74 #[.agg #[.bool bg, .slice bA bn bc], .int .i64 10] _ (TextQ _ st) from Text_z (w := ((w.alloc (.cells #[.int .i64 0, .bool bg, .slice bA bn bc] 67)).alloc (.cells #[.int .i64 0, .string ⟨#[]⟩, .string ⟨#[]⟩, .int .u64 0, .int .i64 0, .slice none 0 0] 26))) (r := 10) rfl (by decide) (by decide) (((hb.lim.sl (B := w.heap.size) hP).below hB2 (Nat.le_refl _)).mono hB2.size) (by omega) hz HTl.out hst)
    have e1 := (EBox.new w ⟨0, bg, bA, bn, bc, bl⟩).below (w' := (w.alloc (.cells #[.int .i64 0, .bool bg, .slice bA bn bc] 67)).alloc (.cells #[.int .i64 0, .string ⟨#[]⟩, .string ⟨#[]⟩, .int .u64 0, .int .i64 0, .slice none 0 0] 26)) ((Below.refl _ _).alloc (Nat.le_refl _) _)
    obtain ⟨x0, x1, x2⟩ := e1.cells
    have hx0 := TBox.new (w.alloc (.cells #[.int .i64 0, .bool bg, .slice bA bn bc] 67)) (k := 0) (v := 0) (b := 0) (n := []) (m := []) (ts := []) (sl := .slice none 0 0) (nb := ⟨#[]⟩) (mb := ⟨#[]⟩) rfl rfl
    rw [World.size_alloc] at hx0
    have HX := Lib.hid hx0
    have HB2 := Lib.hid hB2
    have HSt := Lib.hid hst
    simp only [Bd.v, Bd.vals] at x0 x1 x2 ⊢
    clear hb hn e1 hx0 hz hzz hB2 hst
    go_enter Tryz.func37, Tryz.ntmps37
    go_wp2_with (go_at_call 74; (with_reducible refine HT.out.mono ?_); rintro e u ⟨rfl, hb1⟩; have HX1 := Lib.hid (HX.out.below hb1); have HB1 := Lib.hid (HB2.out.trans (hb1.mono HB2.out.size)); clear hb1; obtain ⟨z0, z1, z2, z3, z4, z5⟩ := HX1.out.frozens; obtain ⟨y0, y1, y2, y3, y4, y5⟩ := HX1.out.cells (nb := ⟨#[]⟩) (mb := ⟨#[]⟩) rfl rfl)
    obtain ⟨hbx, hgr⟩ := HX1.out.set6 (k := 3) (b := 0) (v := 0) (n := []) (m := decB z) (nb := ⟨#[]⟩) (mb := st) [] (.slice none 0 0) rfl HSt.out
    generalize (((((u.setCell ⟨w.heap.size + 1, 0, none⟩ (.int .i64 3)).setCell ⟨w.heap.size + 1, 1, none⟩ (.string ⟨#[]⟩)).setCell ⟨w.heap.size + 1, 2, none⟩ (.string st)).setCell ⟨w.heap.size + 1, 3, none⟩ (.int .u64 0)).setCell ⟨w.heap.size + 1, 4, none⟩ (.int .i64 0)).setCell ⟨w.heap.size + 1, 5, none⟩ (.slice none 0 0) = u6 at *
    obtain ⟨r0, r1, r2, r3, r4, r5⟩ := hbx.cells (nb := ⟨#[]⟩) (mb := st) rfl HSt.out
    exact bodyPost_ret (v := .agg #[.int .i64 3, .string ⟨#[]⟩, .string st, .int .u64 0, .int .i64 0, .slice none 0 0]) (by simp [results, Tryz.results37, go_sem, r0, r1, r2, r3, r4, r5]) rfl ⟨by rw [← HSt.out]; rfl, HB1.out.grown hgr HB1.out.size (fun j e => by injection e with e; omega)⟩
  · rw [Bd.ed_hi (by omega)]
    obtain ⟨bi, bg, bA, bn, bc, bl⟩ := b
    simp only at h
    subst h
    have e1 := (EBox.new w ⟨1, bg, bA, bn, bc, bl⟩).below (w' := (w.alloc (.cells #[.int .i64 (1), .bool bg, .slice bA bn bc] 67)).alloc (.cells #[.int .i64 0, .string ⟨#[]⟩, .string ⟨#[]⟩, .int .u64 0, .int .i64 0, .slice none 0 0] 26)) ((Below.refl _ _).alloc (Nat.le_refl _) _)
    obtain ⟨x0, x1, x2⟩ := e1.cells
    have hz := TBox.new (w.alloc (.cells #[.int .i64 (1), .bool bg, .slice bA bn bc] 67)) (k := 0) (v := 0) (b := 0) (n := []) (m := []) (ts := []) (sl := .slice none 0 0) (nb := ⟨#[]⟩) (mb := ⟨#[]⟩) rfl rfl
    have hx := TBox.new (w.alloc (.cells #[.int .i64 (1), .bool bg, .slice bA bn bc] 67)) (k := 2) (v := 0) (b := 0) (n := sSup) (m := []) (ts := []) (sl := .slice none 0 0) (nb := ⟨#[115, 117, 112]⟩) (mb := ⟨#[]⟩) rfl rfl
    rw [World.size_alloc] at hz hx
    obtain ⟨z0, z1, z2, z3, z4, z5⟩ := hz.frozens
    have HX := Lib.hid hx
    have HB := Lib.hid (show Below w.heap.size w ((w.alloc (.cells #[.int .i64 (1), .bool bg, .slice bA bn bc] 67)).alloc (.cells #[.int .i64 2, .string ⟨#[115, 117, 112]⟩, .string ⟨#[]⟩, .int .u64 0, .int .i64 0, .slice none 0 0] 26)) from ((Below.refl _ _).alloc (Nat.le_refl _) _).alloc (by simp) _)
    simp only [Bd.v, Bd.vals] at x0 x1 x2 ⊢
    clear hb hn e1 hz hx
    go_enter Tryz.func37, Tryz.ntmps37
    go_wp2
    obtain ⟨r0, r1, r2, r3, r4, r5⟩ := HX.out.cells (nb := ⟨#[115, 117, 112]⟩) (mb := ⟨#[]⟩) rfl rfl
    exact bodyPost_ret (v := .agg #[.int .i64 2, .string ⟨#[115, 117, 112]⟩, .string ⟨#[]⟩, .int .u64 0, .int .i64 0, .slice none 0 0]) (by simp [results, Tryz.results37, go_sem, r0, r1, r2, r3, r4, r5]) rfl ⟨rfl, HB.out⟩
end Go.Proofs.YtpikjceodmepiaaGreatDoor


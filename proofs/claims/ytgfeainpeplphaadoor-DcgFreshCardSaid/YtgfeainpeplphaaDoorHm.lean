import Derived.Test.YtgfeainpeplphaaDoorHl
namespace Go.Proofs.YtgfeainpeplphaaDoor
open Go.RowKit Hb Ht
set_option linter.unusedVariables false
set_option linter.unusedSimpArgs false
attribute [local go_sem] Oper.semAt_some
theorem okF_cmp {s : List UInt8} {ts : List Tm} (h : s.length ≤ maxLen) : okF (cmpT s ts) := ⟨h, by simp [cmpT, Tm.m], by simp [cmpT, Tm.b], by simp [cmpT, Tm.v], by simp [cmpT, Tm.k]⟩
theorem okF_var {n : Int} (h : -9223372036854775808 ≤ n ∧ n ≤ 9223372036854775807) : okF (varT n) := ⟨by simp [varT, Tm.n], by simp [varT, Tm.m], by simp [varT, Tm.b], h, by simp [varT, Tm.k]⟩
theorem okF_atom {s : List UInt8} (h : s.length ≤ maxLen) : okF (atomT s) := ⟨h, by simp [atomT, Tm.m], by simp [atomT, Tm.b], by simp [atomT, Tm.v], by simp [atomT, Tm.k]⟩
/-- a row that reads, in a block that is known -/
theorem RowP.block {w : World} {P : Nat → Prop} {g : Nat} {ps : List (Tm × Value)} (hg : w.heap[g]? = some (.cells (fl6 ps).toArray 25 (0, 0))) (hk : ∀ p ∈ ps, TAtP w P p.1 p.2) : RowP w P (some ⟨g, 0, none⟩) ps.length ps :=
  ⟨rfl, hk, fun _ => ⟨g, 0, rfl, (Array.getElem?_eq_some_iff.1 hg).1, fun j u hj => by rw [Nat.zero_add, cell_of_row w g j _ _ (0, 0) hg]; simpa using hj⟩⟩
/-- a term over a row that reads -/
theorem RowP.term {w : World} {P : Nat → Prop} {A : Option Addr} {n c : Nat} {ps : List (Tm × Value)} (h : RowP w P A n ps) (hA : ∀ g o, 0 < n → A = some ⟨g, o, none⟩ → P g) {t : Tm} (ht : t.as = ps.map (·.1)) (hc : n ≤ c) (hc2 : c ≤ maxLen) (hn : n ≤ maxArgs) (ho : okF t) : TAtP w P t (.slice A n c) := by
  have hl2 : t.as.length = n := by rw [ht, List.length_map, h.1]
  rw [TAtP.iff, hl2]
  refine ⟨A, c, rfl, hc, hc2, hn, ho, fun hne => ?_⟩
  have hn0 : 0 < n := by rw [← hl2]; exact List.length_pos_iff.2 hne
  obtain ⟨g, o, e, hg, hcl⟩ := h.2.2 hn0
  refine ⟨g, o, e, hA g o hn0 e, fun i a ha => ?_⟩
  rw [ht, List.getElem?_map] at ha
  cases hp : ps[i]? with
  | none => rw [hp] at ha; cases ha
  | some p =>
    rw [hp] at ha
    cases ha
    refine ⟨p.2, fun j hj => ?_, h.2.1 p (List.mem_of_getElem? hp)⟩
    have hc := fl6_get hp hj
    have hlt : j < (cells6 p.1 p.2).length := hj
    rw [List.getElem?_eq_getElem hlt] at hc ⊢
    rw [Nat.add_assoc]
    exact hcl _ _ hc
/-- a row out of a term -/
theorem TAtP.rowP {w : World} {P : Nat → Prop} {t : Tm} {A : Option Addr} {n c : Nat} (h : TAtP w P t (.slice A n c)) (hP : ∀ b, P b → b < w.heap.size) : ∃ ps, RowP w P A n ps ∧ ps.map (·.1) = t.as := by
  obtain ⟨A', c', e, h1, h2, h3, h4, h5⟩ := TAtP.iff.1 h
  injection e with e1 e2 e3
  subst e1 e2 e3
  by_cases hne : t.as = []
  · exact ⟨[], ⟨by rw [hne]; rfl, by simp, fun hn => by rw [hne] at hn; simp at hn⟩, by rw [hne]; rfl⟩
  · obtain ⟨g, o, rfl, hg, hs⟩ := h5 hne
    have key : ∀ (l : List Tm) (o : Nat), (∀ i a, l[i]? = some a → EltP w P g (o + i * 6) a) → ∃ ps : List (Tm × Value), ps.map (·.1) = l ∧ (∀ p ∈ ps, TAtP w P p.1 p.2) ∧ ∀ j u, (fl6 ps)[j]? = some u → w.cell? ⟨g, o + j, none⟩ = some u := by
      intro l
      induction l with
      | nil => intro o _; exact ⟨[], rfl, by simp, fun j u hj => by simp [fl6] at hj⟩
      | cons a l ih =>
        intro o h
        obtain ⟨sl, hc, ht⟩ := h 0 a rfl
        obtain ⟨ps, hp1, hp2, hp3⟩ := ih (o + 6) (fun i a ha => by
          have := h (i + 1) a (by simpa using ha)
          rwa [show o + (i + 1) * 6 = o + 6 + i * 6 by omega] at this)
        refine ⟨(a, sl) :: ps, by simp [hp1], fun p hp => ?_, fun j u hj => ?_⟩
        · rcases List.mem_cons.1 hp with rfl | hp
          · exact ht
          · exact hp2 p hp
        · have e : fl6 ((a, sl) :: ps) = cells6 a sl ++ fl6 ps := by simp [fl6]
          rw [e] at hj
          by_cases hj6 : j < 6
          · rw [List.getElem?_append_left (by exact hj6)] at hj
            have := hc j hj6
            rw [Nat.zero_mul, Nat.add_zero] at this
            rw [this, hj]
          · rw [List.getElem?_append_right (by show 6 ≤ j; omega)] at hj
            have := hp3 (j - 6) u hj
            rwa [show o + 6 + (j - 6) = o + j by omega] at this
    obtain ⟨ps, hp1, hp2, hp3⟩ := key t.as o hs
    exact ⟨ps, ⟨by rw [← hp1, List.length_map], hp2, fun _ => ⟨g, o, rfl, hP g hg, hp3⟩⟩, hp1⟩
set_option maxRecDepth 100000 in
set_option maxHeartbeats 2000000 in
theorem F2_any {w : World} {P : Nat → Prop} {ta tb : Tm} {sa sb : Value} (ha : TAtP w P ta sa) (hb : TAtP w P tb sb) (hP : ∀ b, P b → b < w.heap.size) (nb : ByteArray) (hnb : nb.size ≤ maxLen) :
    Calls Tryd.prog 51 #[.string nb, valT ta sa, valT tb sb] w fun e w' => ∃ A c, e = .returned (.agg #[.int .i64 5, .string nb, .string ⟨#[]⟩, .int .u64 0, .int .i64 0, .slice A 2 c]) ∧ TAtP w' (Grow P w w') (cmpT nb.data.toList [ta, tb]) (.slice A 2 c) ∧ Below w.heap.size w w' := by
  obtain ⟨k1, nl1, ml1, b1, v1, ts1, nb1, mb1, A1, c1, rfl, rfl, hnb1, hmb1, hl1, hl2, hl3, hv1, _, _⟩ := ha.letters
  obtain ⟨k2, nl2, ml2, b2, v2, ts2, nb2, mb2, A2, c2, rfl, rfl, hnb2, hmb2, hm1, hm2, hm3, hv2, _, _⟩ := hb.letters
  rw [hv1, hv2]
  obtain ⟨q1, hq1⟩ : ∃ q, ts1.length = q := ⟨_, rfl⟩
  obtain ⟨q2, hq2⟩ : ∃ q, ts2.length = q := ⟨_, rfl⟩
  rw [hq1] at ha ⊢
  rw [hq2] at hb ⊢
  obtain ⟨W1, hW1⟩ : ∃ W1, w.alloc (.cells #[.int .i64 k1, .string nb1, .string mb1, .int .u64 b1, .int .i64 v1, .slice A1 q1 c1] 25) = W1 := ⟨_, rfl⟩
  obtain ⟨W2, hW2⟩ : ∃ W2, W1.alloc (.cells #[.int .i64 k2, .string nb2, .string mb2, .int .u64 b2, .int .i64 v2, .slice A2 q2 c2] 25) = W2 := ⟨_, rfl⟩
  obtain ⟨W3, hW3⟩ : ∃ W3, W2.alloc (.cells #[.int .i64 0, .string ⟨#[]⟩, .string ⟨#[]⟩, .int .u64 0, .int .i64 0, .slice none 0 0] 25) = W3 := ⟨_, rfl⟩
  obtain ⟨W4, hW4⟩ : ∃ W4, W3.alloc (.cells #[.int .i64 k1, .string nb1, .string mb1, .int .u64 b1, .int .i64 v1, .slice A1 q1 c1, .int .i64 k2, .string nb2, .string mb2, .int .u64 b2, .int .i64 v2, .slice A2 q2 c2] 25) = W4 := ⟨_, rfl⟩
  have h1 : Below w.heap.size w W1 := by rw [← hW1]; exact (Below.refl _ _).alloc (Nat.le_refl _) _
  have s1 : W1.heap.size = w.heap.size + 1 := by rw [← hW1]; simp
  have h2 : Below W1.heap.size W1 W2 := by rw [← hW2]; exact (Below.refl _ _).alloc (Nat.le_refl _) _
  have s2 : W2.heap.size = W1.heap.size + 1 := by rw [← hW2]; simp
  have h3 : Below W2.heap.size W2 W3 := by rw [← hW3]; exact (Below.refl _ _).alloc (Nat.le_refl _) _
  have s3 : W3.heap.size = W2.heap.size + 1 := by rw [← hW3]; simp
  have h4 : Below W3.heap.size W3 W4 := by rw [← hW4]; exact (Below.refl _ _).alloc (Nat.le_refl _) _
  have hX1 : TBox W1 w.heap.size (.mk k1 nl1 ml1 b1 v1 ts1) (.slice A1 q1 c1) := by rw [← hW1]; exact TBox.new w hnb1 hmb1
  have hX2 : TBox W2 W1.heap.size (.mk k2 nl2 ml2 b2 v2 ts2) (.slice A2 q2 c2) := by rw [← hW2]; exact TBox.new W1 hnb2 hmb2
  have hX3 : TBox W3 W2.heap.size zeroT (.slice none 0 0) := by rw [← hW3]; exact heap_alloc_new W2 _
  have hX1' := (hX1.below h2).below h3
  have hX2' := hX2.below h3
  have hb12 := h1.trans ((h2.trans ((h3.trans (h4.mono (by omega))).mono (by omega))).mono (by omega))
  have hrow : RowP W4 P (some ⟨W3.heap.size, 0, none⟩) 2 [((.mk k1 nl1 ml1 b1 v1 ts1 : Tm), Value.slice A1 q1 c1), ((.mk k2 nl2 ml2 b2 v2 ts2 : Tm), Value.slice A2 q2 c2)] := by
    refine RowP.block (ps := [((.mk k1 nl1 ml1 b1 v1 ts1 : Tm), Value.slice A1 q1 c1), ((.mk k2 nl2 ml2 b2 v2 ts2 : Tm), Value.slice A2 q2 c2)]) ?_ (fun p hp => ?_)
    · rw [← hW4, ← hnb1, ← hmb1, ← hnb2, ← hmb2]
      exact heap_alloc_new W3 _
    · simp only [List.mem_cons, List.not_mem_nil, or_false] at hp
      rcases hp with rfl | rfl
      · exact ha.below hb12 hP
      · exact hb.below hb12 hP
  have HF := Lib.hid (F_any hrow (fun b hb => Nat.lt_of_lt_of_le (hP b hb) hb12.size) (by omega) (by unfold maxArgs; omega) (c := 2) nb)
  have HX3 := Lib.hid (And.intro (hX3.below h4) hb12)
  rw [s3, s2, s1] at HF
  rw [s2, s1] at HX3
  rw [s1] at hX2'
  obtain ⟨x0, x1, x2, x3, x4, x5⟩ := hX1'.cells hnb1 hmb1
  obtain ⟨y0, y1, y2, y3, y4, y5⟩ := hX2'.cells hnb2 hmb2
  have HS := Lib.hid (show w.heap.size + 1 + 1 < W4.heap.size by have := h4.size; omega)
  subst hW1 hW2 hW3 hW4
  clear ha hb h1 h2 h3 h4 s1 s2 s3 hX1 hX2 hX3 hX1' hX2' hb12 hrow hnb1 hmb1 hnb2 hmb2 hq1 hq2 hv1 hv2
  go_enter Tryd.func51, Tryd.ntmps51
  go_wp2_with (go_at_call 67; (with_reducible refine HF.out.mono ?_); rintro e w5 ⟨A5, c5, rfl, hr5, hb5⟩; have HX5 := Lib.hid (HX3.out.1.below hb5); obtain ⟨u0, u1, u2, u3, u4, u5⟩ := HX5.out.cells rfl rfl; obtain ⟨z0, z1, z2, z3, z4, z5⟩ := HX5.out.frozens; have HR5 := Lib.hid (And.intro hr5 (HX3.out.2.trans (hb5.mono HX3.out.2.size))); have HW45 := Lib.hid hb5.size; clear hr5 hb5)
  obtain ⟨hbx, hgr⟩ := HX5.out.set6 (k := 5) (b := 0) (v := 0) (n := nb.data.toList) (m := []) (nb := nb) (mb := ⟨#[]⟩) [] (.slice A5 2 c5) (by simp) rfl
  generalize (((((w5.setCell ⟨w.heap.size + 1 + 1, 0, none⟩ (.int .i64 5)).setCell ⟨w.heap.size + 1 + 1, 1, none⟩ (.string nb)).setCell ⟨w.heap.size + 1 + 1, 2, none⟩ (.string ⟨#[]⟩)).setCell ⟨w.heap.size + 1 + 1, 3, none⟩ (.int .u64 0)).setCell ⟨w.heap.size + 1 + 1, 4, none⟩ (.int .i64 0)).setCell ⟨w.heap.size + 1 + 1, 5, none⟩ (.slice A5 2 c5) = w6 at *
  obtain ⟨r0, r1, r2, r3, r4, r5⟩ := hbx.cells (nb := nb) (mb := ⟨#[]⟩) (by simp) rfl
  have hS := HS.out
  have hR := HR5.out
  refine bodyPost_ret (v := .agg #[.int .i64 5, .string nb, .string ⟨#[]⟩, .int .u64 0, .int .i64 0, .slice A5 2 c5]) (by simp [results, Tryd.results51, go_sem, r0, r1, r2, r3, r4, r5]) rfl ⟨A5, c5, rfl, ?_, hR.2.grown hgr hR.2.size (fun j e => by injection e with e; omega)⟩
  have hw45 := HW45.out
  have h9 := (hR.1.keepP (w' := w6) (fun b h1 h2 => hgr.block b h2 (fun e => by injection e with e; omega)) (fun b hb => by
    have := hP b hb
    exact hgr.block b (by omega) (fun e => by injection e with e; omega))).wide (Q := Grow P w w6) (fun b hb => .inl hb)
  exact h9.termP (t := cmpT nb.data.toList [.mk k1 nl1 ml1 b1 v1 ts1, .mk k2 nl2 ml2 b2 v2 ts2]) (fun b h1 h2 => .inr ⟨by omega, h2⟩) rfl (by unfold maxArgs; omega) (okF_cmp (by simpa using hnb))
end Go.Proofs.YtgfeainpeplphaaDoor

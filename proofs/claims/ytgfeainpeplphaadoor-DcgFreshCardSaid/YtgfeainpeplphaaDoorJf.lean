import Derived.Test.YtgfeainpeplphaaDoorJe
namespace Go.Proofs.YtgfeainpeplphaaDoor
open Go.RowKit Hb Ht
set_option linter.unusedVariables false
set_option linter.unusedSimpArgs false
attribute [local go_sem] Oper.semAt_some
/-! ### put: two lists to a nonterminal -/
theorem RowP.apart {u : World} {P : Nat → Prop} {B m n c : Nat} {A A2 : Option Addr} {ps qs : List (Tm × Value)} (h : RowP u P A2 m qs) (hr : TRow u B P A n c ps) (hB : ∀ b, P b → b < B) : RowP u (fun b => P b ∧ (Value.slice A n c).ownBlock ≠ some b) A2 m qs :=
  ⟨h.1, fun p hp => (h.2.1 p hp).wide (fun b hb => ⟨hb, by
    have := hB b hb
    rcases hr.block with ⟨h1, _⟩ | ⟨g, h1, h2, h3, h4⟩
    · subst h1; simp [Value.ownBlock]
    · rw [h4]; intro e; injection e with e; omega⟩), h.2.2⟩
theorem rowP_at {u : World} {P : Nat → Prop} {g n : Nat} {cs : Array Value} {ps : List (Tm × Value)} (hg : u.heap[g]? = some (.cells cs 25 (0, 0))) (hcs : cs = (fl6 ps).toArray) (hn : ps.length = n) (hk : ∀ p ∈ ps, TAtP u P p.1 p.2) : RowP u P (some ⟨g, 0, none⟩) n ps := by
  subst hcs hn
  exact RowP.block hg hk
def PutS (G : Nat) (va v1 v2 : Value) (cs1 cs2 : List Value) (x : World) : Prop := x.cell? ⟨G, 5, none⟩ = some va ∧ (∀ j u, cs1[j]? = some u → x.cell? ⟨G + 1, j, none⟩ = some u) ∧ (∀ j u, cs2[j]? = some u → x.cell? ⟨G + 1 + 1, j, none⟩ = some u)
set_option maxRecDepth 100000 in
set_option maxHeartbeats 8000000 in
theorem put_fit {w : World} {P : Nat → Prop} {t f d : Tm} {st sf sd : Value} (h1 : TAtP w P t st) (h2 : TAtP w P f sf) (h3 : TAtP w P d sd) (hP : ∀ b, P b → b < w.heap.size) (h62 : t.as.length ≤ 62) :
    Calls Tryd.prog 36 #[valT t st, valT f sf, valT d sd] w fun e w' => ∃ sl', e = .returned (valT (cmpT t.n (t.as ++ [f, d])) sl') ∧ TAtP w' (Grow P w w') (cmpT t.n (t.as ++ [f, d])) sl' ∧ Below w.heap.size w w' := by
  obtain ⟨k1, n1, m1, b1, v1, ts1, nb1, mb1, A1, c1, rfl, rfl, hnb1, hmb1, hl1, hc1, hx1, hv1, hs1, hq1⟩ := h1.letters
  obtain ⟨L1, hL1⟩ : ∃ L, ts1.length = L := ⟨_, rfl⟩
  rw [hv1]
  rw [hL1] at h1 hv1 hl1 hx1 ⊢
  obtain ⟨k2, n2, m2, b2, v2, ts2, nb2, mb2, A2, c2, rfl, rfl, hnb2, hmb2, hl2, hc2, hx2, hv2, hs2, hq2⟩ := h2.letters
  obtain ⟨L2, hL2⟩ : ∃ L, ts2.length = L := ⟨_, rfl⟩
  rw [hv2]
  rw [hL2] at h2 hv2 hl2 hx2 ⊢
  obtain ⟨k3, n3, m3, b3, v3, ts3, nb3, mb3, A3, c3, rfl, rfl, hnb3, hmb3, hl3, hc3, hx3, hv3, hs3, hq3⟩ := h3.letters
  obtain ⟨L3, hL3⟩ : ∃ L, ts3.length = L := ⟨_, rfl⟩
  rw [hv3]
  rw [hL3] at h3 hv3 hl3 hx3 ⊢
  change ts1.length ≤ 62 at h62
  rw [hL1] at h62
  obtain ⟨qs, hqs, hqm⟩ := TAtP.rowP h1 hP
  change List.map (fun x => x.1) qs = ts1 at hqm
  have hok : n1.length ≤ maxLen := by have := TAtP.ok h1; exact this.1
  obtain ⟨W1, hW1⟩ : ∃ W, w.alloc (.cells #[.int .i64 k1, .string nb1, .string mb1, .int .u64 b1, .int .i64 v1, .slice A1 L1 c1] 25) = W := ⟨_, rfl⟩
  obtain ⟨W2, hW2⟩ : ∃ W, W1.alloc (.cells #[.int .i64 k2, .string nb2, .string mb2, .int .u64 b2, .int .i64 v2, .slice A2 L2 c2] 25) = W := ⟨_, rfl⟩
  obtain ⟨W3, hW3⟩ : ∃ W, W2.alloc (.cells #[.int .i64 k3, .string nb3, .string mb3, .int .u64 b3, .int .i64 v3, .slice A3 L3 c3] 25) = W := ⟨_, rfl⟩
  obtain ⟨W4, hW4⟩ : ∃ W, W3.alloc (.cells #[.int .i64 0, .string ⟨#[]⟩, .string ⟨#[]⟩, .int .u64 0, .int .i64 0, .slice none 0 0] 25) = W := ⟨_, rfl⟩
  have d1 : Below w.heap.size w W1 := by rw [← hW1]; exact (Below.refl _ _).alloc (Nat.le_refl _) _
  have s1 : W1.heap.size = w.heap.size + 1 := by rw [← hW1]; simp
  have X1 : TBox W1 w.heap.size (.mk k1 n1 m1 b1 v1 ts1) (.slice A1 L1 c1) := by rw [← hW1]; exact TBox.new w hnb1 hmb1
  have d2 : Below W1.heap.size W1 W2 := by rw [← hW2]; exact (Below.refl _ _).alloc (Nat.le_refl _) _
  have s2 : W2.heap.size = W1.heap.size + 1 := by rw [← hW2]; simp
  have X2 : TBox W2 W1.heap.size (.mk k2 n2 m2 b2 v2 ts2) (.slice A2 L2 c2) := by rw [← hW2]; exact TBox.new W1 hnb2 hmb2
  have d3 : Below W2.heap.size W2 W3 := by rw [← hW3]; exact (Below.refl _ _).alloc (Nat.le_refl _) _
  have s3 : W3.heap.size = W2.heap.size + 1 := by rw [← hW3]; simp
  have X3 : TBox W3 W2.heap.size (.mk k3 n3 m3 b3 v3 ts3) (.slice A3 L3 c3) := by rw [← hW3]; exact TBox.new W2 hnb3 hmb3
  have d4 : Below W3.heap.size W3 W4 := by rw [← hW4]; exact (Below.refl _ _).alloc (Nat.le_refl _) _
  have s4 : W4.heap.size = W3.heap.size + 1 := by rw [← hW4]; simp
  have X4 : TBox W4 W3.heap.size zeroT (.slice none 0 0) := by rw [← hW4]; exact heap_alloc_new W3 _
  replace X1 := X1.below d2
  replace X1 := X1.below d3
  replace X1 := X1.below d4
  replace X2 := X2.below d3
  replace X2 := X2.below d4
  replace X3 := X3.below d4
  have hbw : Below w.heap.size w W4 := d1.trans ((d2.trans ((d3.trans ((d4).mono (by omega))).mono (by omega))).mono (by omega))
  rw [s3, s2, s1] at X4
  rw [s2, s1] at X3
  rw [s1] at X2
  have hsz : W4.heap.size = w.heap.size + 1 + 1 + 1 + 1 := by omega
  obtain ⟨x0, x1, x2, x3, x4, x5⟩ := X1.cells hnb1 hmb1
  obtain ⟨y0, y1, y2, y3, y4, y5⟩ := X2.cells hnb2 hmb2
  obtain ⟨z0, z1, z2, z3, z4, z5⟩ := X3.cells hnb3 hmb3
  have HX := Lib.hid (And.intro X1 (And.intro X2 (And.intro X3 X4)))
  have HN := Lib.hid (And.intro hnb1 (And.intro hmb1 (And.intro hnb2 (And.intro hmb2 (And.intro hnb3 hmb3)))))
  have HB := Lib.hid (And.intro hbw hsz)
  have HP := Lib.hid hP
  have HQ := Lib.hid (And.intro hqs (And.intro hqm hok))
  have HK := Lib.hid (And.intro h2 h3)
  have HL62 := Lib.hid h62
  have hLI : (L1 : Int) ≤ 62 := by omega
  have HWS := Lib.hid hW4
  subst hW1 hW2 hW3
  rw [← HWS.out] at x0 x1 x2 x3 x4 x5 y0 y1 y2 y3 y4 y5 z0 z1 z2 z3 z4 z5
  clear h1 h2 h3 hqs hqm hok hP hW4 hbw hsz X1 X2 X3 X4 s1 s2 s3 s4 d1 d2 d3 d4 hnb1 hmb1 hnb2 hmb2 hnb3 hmb3 hv1 hv2 hv3 hs1 hs2 hs3 hq1 hq2 hq3 h62
  go_enter Tryd.func36, Tryd.ntmps36
  go_upto_region 3 with fail
  rw [HWS.out] at x0 x1 x2 x3 x4 x5 y0 y1 y2 y3 y4 y5 z0 z1 z2 z3 z4 z5 ⊢
  clear HWS
  obtain ⟨G, hG⟩ : ∃ G, w.heap.size = G := ⟨_, rfl⟩
  have HG := Lib.hid hG
  rw [hG] at HX x0 x1 x2 x3 x4 x5 y0 y1 y2 y3 y4 y5 z0 z1 z2 z3 z4 z5 ⊢
  clear hG
  have HS := Lib.hid (show ∀ x, Below W4.heap.size W4 x → (x.cell? ⟨G, 5, none⟩ = some (.slice A1 L1 c1) ∧ (x.cell? ⟨G + 1, 0, none⟩ = some (.int .i64 k2) ∧ x.cell? ⟨G + 1, 1, none⟩ = some (.string nb2) ∧ x.cell? ⟨G + 1, 2, none⟩ = some (.string mb2) ∧ x.cell? ⟨G + 1, 3, none⟩ = some (.int .u64 b2) ∧ x.cell? ⟨G + 1, 4, none⟩ = some (.int .i64 v2) ∧ x.cell? ⟨G + 1, 5, none⟩ = some (.slice A2 L2 c2)) ∧ (x.cell? ⟨G + 1 + 1, 0, none⟩ = some (.int .i64 k3) ∧ x.cell? ⟨G + 1 + 1, 1, none⟩ = some (.string nb3) ∧ x.cell? ⟨G + 1 + 1, 2, none⟩ = some (.string mb3) ∧ x.cell? ⟨G + 1 + 1, 3, none⟩ = some (.int .u64 b3) ∧ x.cell? ⟨G + 1 + 1, 4, none⟩ = some (.int .i64 v3) ∧ x.cell? ⟨G + 1 + 1, 5, none⟩ = some (.slice A3 L3 c3))) from fun x hb =>
    ⟨((HX.out.1.below hb).cells HN.out.1 HN.out.2.1).2.2.2.2.2, (HX.out.2.1.below hb).cells HN.out.2.2.1 HN.out.2.2.2.1, (HX.out.2.2.1.below hb).cells HN.out.2.2.2.2.1 HN.out.2.2.2.2.2⟩)
  clear x0 x1 x2 x3 x4 x5 y0 y1 y2 y3 y4 y5 z0 z1 z2 z3 z4 z5
  refine wp_region_wait (fun x => (x.cell? ⟨G, 5, none⟩ = some (.slice A1 L1 c1) ∧ (x.cell? ⟨G + 1, 0, none⟩ = some (.int .i64 k2) ∧ x.cell? ⟨G + 1, 1, none⟩ = some (.string nb2) ∧ x.cell? ⟨G + 1, 2, none⟩ = some (.string mb2) ∧ x.cell? ⟨G + 1, 3, none⟩ = some (.int .u64 b2) ∧ x.cell? ⟨G + 1, 4, none⟩ = some (.int .i64 v2) ∧ x.cell? ⟨G + 1, 5, none⟩ = some (.slice A2 L2 c2)) ∧ (x.cell? ⟨G + 1 + 1, 0, none⟩ = some (.int .i64 k3) ∧ x.cell? ⟨G + 1 + 1, 1, none⟩ = some (.string nb3) ∧ x.cell? ⟨G + 1 + 1, 2, none⟩ = some (.string mb3) ∧ x.cell? ⟨G + 1 + 1, 3, none⟩ = some (.int .u64 b3) ∧ x.cell? ⟨G + 1 + 1, 4, none⟩ = some (.int .i64 v3) ∧ x.cell? ⟨G + 1 + 1, 5, none⟩ = some (.slice A3 L3 c3)))) 8 (by kernel_rfl) ?_
  change wpAnyW _ _ _ _ _ _ _ _ _ W4.drew
  have KK := Lib.hid (below_drew' W4)
  generalize W4.drew = u0 at *
  refine wpAnyW_take 8 (i := 1) (v := .pointer (some ⟨G, 5, none⟩)) rfl (by kernel_rfl) (by kernel_rfl) (by kernel_rfl) (by kernel_rfl) (fun _ _ _ h => h) (Or.inl ⟨by rfl, ?_⟩) (HS.out _ KK.out) ?_
  · intro w5 hSw
    obtain ⟨s1, ⟨p0, p1, p2, p3, p4, p5⟩, ⟨q0, q1, q2, q3, q4, q5⟩⟩ := hSw
    go_simp
  refine wpAnyW_take 8 (i := 2) (v := .slice A1 L1 c1) rfl (by kernel_rfl) (by kernel_rfl) (by kernel_rfl) (by kernel_rfl) (fun _ _ _ h => h) (Or.inl ⟨by rfl, ?_⟩) (HS.out _ KK.out) ?_
  · intro w5 hSw
    obtain ⟨s1, ⟨p0, p1, p2, p3, p4, p5⟩, ⟨q0, q1, q2, q3, q4, q5⟩⟩ := hSw
    go_simp
  refine wpAnyW_take 8 (i := 4) (v := .agg #[.int .i64 k2, .string nb2, .string mb2, .int .u64 b2, .int .i64 v2, .slice A2 L2 c2]) rfl (by kernel_rfl) (by kernel_rfl) (by kernel_rfl) (by kernel_rfl) (fun _ _ _ h => h) (Or.inl ⟨by rfl, ?_⟩) (HS.out _ KK.out) ?_
  · intro w5 hSw
    obtain ⟨s1, ⟨p0, p1, p2, p3, p4, p5⟩, ⟨q0, q1, q2, q3, q4, q5⟩⟩ := hSw
    go_simp
  refine wpAnyW_take 8 (i := 5) (v := .agg #[.int .i64 k3, .string nb3, .string mb3, .int .u64 b3, .int .i64 v3, .slice A3 L3 c3]) rfl (by kernel_rfl) (by kernel_rfl) (by kernel_rfl) (by kernel_rfl) (fun _ _ _ h => h) (Or.inl ⟨by rfl, ?_⟩) (HS.out _ KK.out) ?_
  · intro w5 hSw
    obtain ⟨s1, ⟨p0, p1, p2, p3, p4, p5⟩, ⟨q0, q1, q2, q3, q4, q5⟩⟩ := hSw
    go_simp
  refine wpAnyW_two (i := 0) (i2 := 6) (by kernel_rfl) rfl rfl (fun K hK => ?_) (fun K hK => ?_) 
  · go_simp
    have hb : Below u0.heap.size u0 (u0.alloc (.cells #[] 25)) := (Below.refl _ _).alloc (Nat.le_refl _) _
    have HR := Lib.hid (show TRow (u0.alloc (.cells #[] 25)) W4.heap.size P (some ⟨u0.heap.size, 0, none⟩) 0 0 [] ∧ u0.heap.size < (u0.alloc (.cells #[] 25)).heap.size from ⟨⟨owns_emptyT u0 _ KK.out.size, fun p hp => by cases hp⟩, by simp⟩)
    replace KK := Lib.hid (KK.out.trans (hb.mono KK.out.size))
    clear hb
    refine hK.out _ _ (fun _ => HS.out _ KK.out) ?_
    generalize u0.alloc (.cells #[] 25) = u1 at *
    generalize u0.heap.size = g0 at *
    refine wpAnyW_two (i := 3) (i2 := 6) (by kernel_rfl) rfl rfl (fun K hK => ?_) (fun K hK => ?_) 
    · refine step_append_R rfl _ _ rfl rfl HR.out.1 (fun b hb => by have := HP.out b hb; have := HB.out.1.size; have := KK.out.size; omega) rfl ((HQ.out.1.below (HB.out.1.trans (KK.out.mono HB.out.1.size)) HP.out).apart HR.out.1 (fun b hb => Nat.lt_of_lt_of_le (HP.out b hb) HB.out.1.size)) (by have := HL62.out; unfold maxArgs; omega) KK.out.size ?_
      intro A5 c5 u2 hr hb hg
      rw [Nat.zero_add] at hr ⊢
      rw [List.nil_append] at hr
      replace HR := Lib.hid hr
      replace KK := Lib.hid (KK.out.trans hb)
      clear hr hb hg
      refine hK.out _ _ (fun _ => HS.out _ KK.out) ?_
      refine wpAnyW_one (i := 6) (by kernel_rfl) rfl (fun K hK => ?_)
      go_simp
      have hb : Below u2.heap.size u2 (u2.alloc (.cells #[.int .i64 k2, .string nb2, .string mb2, .int .u64 b2, .int .i64 v2, .slice A2 L2 c2, .int .i64 k3, .string nb3, .string mb3, .int .u64 b3, .int .i64 v3, .slice A3 L3 c3] 25)) := (Below.refl _ _).alloc (Nat.le_refl _) _
      have HW := Lib.hid (show (u2.alloc (.cells #[.int .i64 k2, .string nb2, .string mb2, .int .u64 b2, .int .i64 v2, .slice A2 L2 c2, .int .i64 k3, .string nb3, .string mb3, .int .u64 b3, .int .i64 v3, .slice A3 L3 c3] 25)).heap[u2.heap.size]? = some (.cells #[.int .i64 k2, .string nb2, .string mb2, .int .u64 b2, .int .i64 v2, .slice A2 L2 c2, .int .i64 k3, .string nb3, .string mb3, .int .u64 b3, .int .i64 v3, .slice A3 L3 c3] 25 (0, 0)) from heap_alloc_new u2 _)
      replace HR := Lib.hid (HR.out.keep hb (fun b hb => Nat.lt_of_lt_of_le (HP.out b hb) (Nat.le_trans HB.out.1.size KK.out.size)))
      replace KK := Lib.hid (KK.out.trans (hb.mono KK.out.size))
      clear hb
      refine hK.out _ _ (fun _ => HS.out _ KK.out) ?_
      generalize u2.alloc (.cells #[.int .i64 k2, .string nb2, .string mb2, .int .u64 b2, .int .i64 v2, .slice A2 L2 c2, .int .i64 k3, .string nb3, .string mb3, .int .u64 b3, .int .i64 v3, .slice A3 L3 c3] 25) = u3 at *
      generalize u2.heap.size = g6 at *
      refine wpAnyW_one (i := 7) (by kernel_rfl) rfl (fun K hK => ?_)
      have hwb := HB.out.1.trans (KK.out.mono HB.out.1.size)
      refine step_append_R rfl _ _ rfl rfl HR.out (fun b hb => Nat.lt_of_lt_of_le (HP.out b hb) hwb.size) rfl ((rowP_at (P := P) (n := 2) (ps := [((.mk k2 n2 m2 b2 v2 ts2 : Tm), Value.slice A2 L2 c2), ((.mk k3 n3 m3 b3 v3 ts3 : Tm), Value.slice A3 L3 c3)]) HW.out (by rw [← HN.out.2.2.1, ← HN.out.2.2.2.1, ← HN.out.2.2.2.2.1, ← HN.out.2.2.2.2.2]; rfl) rfl (mem2 (HK.out.1.below hwb HP.out) (HK.out.2.below hwb HP.out))).apart HR.out (fun b hb => Nat.lt_of_lt_of_le (HP.out b hb) HB.out.1.size)) (by have := HL62.out; unfold maxArgs; omega) KK.out.size ?_
      intro A6 c6 u4 hr hb hg
      replace HR := Lib.hid hr
      replace KK := Lib.hid (KK.out.trans hb)
      clear hr hb hg HW hwb
      refine hK.out _ _ (fun _ => HS.out _ KK.out) ?_
      refine wpAnyW_one (i := 8) (by kernel_rfl) rfl (fun K hK => ?_)
      go_simp
      refine hK.out _ _ (fun h => absurd h (by simp)) ?_
      refine wpAnyW_done (by kernel_rfl) ?_ _
      have HU := Lib.hid (show ∃ q, u4 = q from ⟨_, rfl⟩)
      have X4 := Lib.hid (show TBox u4 (G + 1 + 1 + 1) zeroT (.slice none 0 0) from HX.out.2.2.2.below KK.out)
      obtain ⟨x0, x1, x2, x3, x4, x5⟩ := (HX.out.1.below KK.out).cells HN.out.1 HN.out.2.1
      go_wp2_with (go_at_call 32; (with_reducible refine (of_any _ _ _ _ _).mono ?_); rintro e w7 ⟨rfl, hb7⟩; have HB7 := Lib.hid hb7; have X7 := Lib.hid (X4.out.below hb7); obtain ⟨a0, a1, a2, a3, a4, a5⟩ := X7.out.cells rfl rfl; obtain ⟨e0, e1, e2, e3, e4, e5⟩ := X7.out.frozens; clear hb7)
      obtain ⟨hbx, hgr⟩ := X7.out.set6 (k := 5) (b := 0) (v := 0) (n := n1) (m := []) (nb := nb1) (mb := ⟨#[]⟩) (ts1 ++ [.mk k2 n2 m2 b2 v2 ts2, .mk k3 n3 m3 b3 v3 ts3]) (.slice A6 (L1 + 2) c6) HN.out.1 rfl
      generalize (((((w7.setCell ⟨G + 1 + 1 + 1, 0, none⟩ (.int .i64 5)).setCell ⟨G + 1 + 1 + 1, 1, none⟩ (.string nb1)).setCell ⟨G + 1 + 1 + 1, 2, none⟩ (.string ⟨#[]⟩)).setCell ⟨G + 1 + 1 + 1, 3, none⟩ (.int .u64 0)).setCell ⟨G + 1 + 1 + 1, 4, none⟩ (.int .i64 0)).setCell ⟨G + 1 + 1 + 1, 5, none⟩ (.slice A6 (L1 + 2) c6) = w8 at *
      obtain ⟨r0, r1, r2, r3, r4, r5⟩ := hbx.cells HN.out.1 rfl
      have hG := HG.out
      have hW4 := HB.out.2
      have hku := KK.out.size
      have h7s := HB7.out.size
      have hwb := HB.out.1.size
      have hr7 := HR.out.keep HB7.out (fun b hb => by have := HP.out b hb; omega)
      have hr8 := (hr7.keepP (w' := w8) (fun b h1 h2 => hgr.block b h2 (fun e => by injection e with e; omega)) (fun b hb => by
        have := HP.out b hb
        exact hgr.block b (by omega) (fun e => by injection e with e; omega))).wide (Q := Grow P w w8) (fun b hb => .inl hb)
      refine bodyPost_ret (v := .agg #[.int .i64 5, .string nb1, .string ⟨#[]⟩, .int .u64 0, .int .i64 0, .slice A6 (L1 + 2) c6]) (by simp [results, Tryd.results36, go_sem, r0, r1, r2, r3, r4, r5]) rfl ⟨.slice A6 (L1 + 2) c6, congrArg Ending.returned (valT_mk HN.out.1 rfl).symm, ?_, ?_⟩
      · exact hr8.termP (t := cmpT n1 (ts1 ++ [.mk k2 n2 m2 b2 v2 ts2, .mk k3 n3 m3 b3 v3 ts3])) (fun b h1 h2 => .inr ⟨by omega, h2⟩) (by rw [List.map_append, HQ.out.2.1]; rfl) (by have := HL62.out; unfold maxArgs; omega) (okF_cmp HQ.out.2.2)
      · exact ((HB.out.1.trans (KK.out.mono hwb)).trans (HB7.out.mono (by omega))).grown hgr (by omega) (fun j e => by injection e with e; omega)
    · go_simp
      have hb : Below u1.heap.size u1 (u1.alloc (.cells #[.int .i64 k2, .string nb2, .string mb2, .int .u64 b2, .int .i64 v2, .slice A2 L2 c2, .int .i64 k3, .string nb3, .string mb3, .int .u64 b3, .int .i64 v3, .slice A3 L3 c3] 25)) := (Below.refl _ _).alloc (Nat.le_refl _) _
      have HW := Lib.hid (show (u1.alloc (.cells #[.int .i64 k2, .string nb2, .string mb2, .int .u64 b2, .int .i64 v2, .slice A2 L2 c2, .int .i64 k3, .string nb3, .string mb3, .int .u64 b3, .int .i64 v3, .slice A3 L3 c3] 25)).heap[u1.heap.size]? = some (.cells #[.int .i64 k2, .string nb2, .string mb2, .int .u64 b2, .int .i64 v2, .slice A2 L2 c2, .int .i64 k3, .string nb3, .string mb3, .int .u64 b3, .int .i64 v3, .slice A3 L3 c3] 25 (0, 0)) from heap_alloc_new u1 _)
      have hne : u1.heap.size ≠ g0 := by have := HR.out.2; omega
      replace HR := Lib.hid (And.intro (HR.out.1.keep hb (fun b hb => by have := HP.out b hb; have := HB.out.1.size; have := KK.out.size; omega)) (Nat.lt_of_lt_of_le HR.out.2 hb.size))
      replace KK := Lib.hid (KK.out.trans (hb.mono KK.out.size))
      clear hb
      refine hK.out _ _ (fun _ => HS.out _ KK.out) ?_
      generalize u1.alloc (.cells #[.int .i64 k2, .string nb2, .string mb2, .int .u64 b2, .int .i64 v2, .slice A2 L2 c2, .int .i64 k3, .string nb3, .string mb3, .int .u64 b3, .int .i64 v3, .slice A3 L3 c3] 25) = u5 at *
      generalize u1.heap.size = g6 at *
      refine wpAnyW_one (i := 3) (by kernel_rfl) rfl (fun K hK => ?_)
      refine step_append_R rfl _ _ rfl rfl HR.out.1 (fun b hb => by have := HP.out b hb; have := HB.out.1.size; have := KK.out.size; omega) rfl ((HQ.out.1.below (HB.out.1.trans (KK.out.mono HB.out.1.size)) HP.out).apart HR.out.1 (fun b hb => Nat.lt_of_lt_of_le (HP.out b hb) HB.out.1.size)) (by have := HL62.out; unfold maxArgs; omega) KK.out.size ?_
      intro A5 c5 u6 hr hb hg
      rw [Nat.zero_add] at hr ⊢
      rw [List.nil_append] at hr
      replace HW := Lib.hid ((hg.block g6 (Array.getElem?_eq_some_iff.1 HW.out).1 (fun e => by injection e with e; exact hne e)).trans HW.out)
      replace HR := Lib.hid hr
      replace KK := Lib.hid (KK.out.trans hb)
      clear hr hb hg
      refine hK.out _ _ (fun _ => HS.out _ KK.out) ?_
      refine wpAnyW_one (i := 7) (by kernel_rfl) rfl (fun K hK => ?_)
      have hwb := HB.out.1.trans (KK.out.mono HB.out.1.size)
      refine step_append_R rfl _ _ rfl rfl HR.out (fun b hb => Nat.lt_of_lt_of_le (HP.out b hb) hwb.size) rfl ((rowP_at (P := P) (n := 2) (ps := [((.mk k2 n2 m2 b2 v2 ts2 : Tm), Value.slice A2 L2 c2), ((.mk k3 n3 m3 b3 v3 ts3 : Tm), Value.slice A3 L3 c3)]) HW.out (by rw [← HN.out.2.2.1, ← HN.out.2.2.2.1, ← HN.out.2.2.2.2.1, ← HN.out.2.2.2.2.2]; rfl) rfl (mem2 (HK.out.1.below hwb HP.out) (HK.out.2.below hwb HP.out))).apart HR.out (fun b hb => Nat.lt_of_lt_of_le (HP.out b hb) HB.out.1.size)) (by have := HL62.out; unfold maxArgs; omega) KK.out.size ?_
      intro A6 c6 u7 hr hb hg
      replace HR := Lib.hid hr
      replace KK := Lib.hid (KK.out.trans hb)
      clear hr hb hg HW hwb
      refine hK.out _ _ (fun _ => HS.out _ KK.out) ?_
      refine wpAnyW_one (i := 8) (by kernel_rfl) rfl (fun K hK => ?_)
      go_simp
      refine hK.out _ _ (fun h => absurd h (by simp)) ?_
      refine wpAnyW_done (by kernel_rfl) ?_ _
      have HU := Lib.hid (show ∃ q, u7 = q from ⟨_, rfl⟩)
      have X4 := Lib.hid (show TBox u7 (G + 1 + 1 + 1) zeroT (.slice none 0 0) from HX.out.2.2.2.below KK.out)
      obtain ⟨x0, x1, x2, x3, x4, x5⟩ := (HX.out.1.below KK.out).cells HN.out.1 HN.out.2.1
      go_wp2_with (go_at_call 32; (with_reducible refine (of_any _ _ _ _ _).mono ?_); rintro e w7 ⟨rfl, hb7⟩; have HB7 := Lib.hid hb7; have X7 := Lib.hid (X4.out.below hb7); obtain ⟨a0, a1, a2, a3, a4, a5⟩ := X7.out.cells rfl rfl; obtain ⟨e0, e1, e2, e3, e4, e5⟩ := X7.out.frozens; clear hb7)
      obtain ⟨hbx, hgr⟩ := X7.out.set6 (k := 5) (b := 0) (v := 0) (n := n1) (m := []) (nb := nb1) (mb := ⟨#[]⟩) (ts1 ++ [.mk k2 n2 m2 b2 v2 ts2, .mk k3 n3 m3 b3 v3 ts3]) (.slice A6 (L1 + 2) c6) HN.out.1 rfl
      generalize (((((w7.setCell ⟨G + 1 + 1 + 1, 0, none⟩ (.int .i64 5)).setCell ⟨G + 1 + 1 + 1, 1, none⟩ (.string nb1)).setCell ⟨G + 1 + 1 + 1, 2, none⟩ (.string ⟨#[]⟩)).setCell ⟨G + 1 + 1 + 1, 3, none⟩ (.int .u64 0)).setCell ⟨G + 1 + 1 + 1, 4, none⟩ (.int .i64 0)).setCell ⟨G + 1 + 1 + 1, 5, none⟩ (.slice A6 (L1 + 2) c6) = w8 at *
      obtain ⟨r0, r1, r2, r3, r4, r5⟩ := hbx.cells HN.out.1 rfl
      have hG := HG.out
      have hW4 := HB.out.2
      have hku := KK.out.size
      have h7s := HB7.out.size
      have hwb := HB.out.1.size
      have hr7 := HR.out.keep HB7.out (fun b hb => by have := HP.out b hb; omega)
      have hr8 := (hr7.keepP (w' := w8) (fun b h1 h2 => hgr.block b h2 (fun e => by injection e with e; omega)) (fun b hb => by
        have := HP.out b hb
        exact hgr.block b (by omega) (fun e => by injection e with e; omega))).wide (Q := Grow P w w8) (fun b hb => .inl hb)
      refine bodyPost_ret (v := .agg #[.int .i64 5, .string nb1, .string ⟨#[]⟩, .int .u64 0, .int .i64 0, .slice A6 (L1 + 2) c6]) (by simp [results, Tryd.results36, go_sem, r0, r1, r2, r3, r4, r5]) rfl ⟨.slice A6 (L1 + 2) c6, congrArg Ending.returned (valT_mk HN.out.1 rfl).symm, ?_, ?_⟩
      · exact hr8.termP (t := cmpT n1 (ts1 ++ [.mk k2 n2 m2 b2 v2 ts2, .mk k3 n3 m3 b3 v3 ts3])) (fun b h1 h2 => .inr ⟨by omega, h2⟩) (by rw [List.map_append, HQ.out.2.1]; rfl) (by have := HL62.out; unfold maxArgs; omega) (okF_cmp HQ.out.2.2)
      · exact ((HB.out.1.trans (KK.out.mono hwb)).trans (HB7.out.mono (by omega))).grown hgr (by omega) (fun j e => by injection e with e; omega)
  · go_simp
    have hb : Below u0.heap.size u0 (u0.alloc (.cells #[.int .i64 k2, .string nb2, .string mb2, .int .u64 b2, .int .i64 v2, .slice A2 L2 c2, .int .i64 k3, .string nb3, .string mb3, .int .u64 b3, .int .i64 v3, .slice A3 L3 c3] 25)) := (Below.refl _ _).alloc (Nat.le_refl _) _
    have HW := Lib.hid (show (u0.alloc (.cells #[.int .i64 k2, .string nb2, .string mb2, .int .u64 b2, .int .i64 v2, .slice A2 L2 c2, .int .i64 k3, .string nb3, .string mb3, .int .u64 b3, .int .i64 v3, .slice A3 L3 c3] 25)).heap[u0.heap.size]? = some (.cells #[.int .i64 k2, .string nb2, .string mb2, .int .u64 b2, .int .i64 v2, .slice A2 L2 c2, .int .i64 k3, .string nb3, .string mb3, .int .u64 b3, .int .i64 v3, .slice A3 L3 c3] 25 (0, 0)) from heap_alloc_new u0 _)
    replace KK := Lib.hid (KK.out.trans (hb.mono KK.out.size))
    clear hb
    refine hK.out _ _ (fun _ => HS.out _ KK.out) ?_
    generalize u0.alloc (.cells #[.int .i64 k2, .string nb2, .string mb2, .int .u64 b2, .int .i64 v2, .slice A2 L2 c2, .int .i64 k3, .string nb3, .string mb3, .int .u64 b3, .int .i64 v3, .slice A3 L3 c3] 25) = u8 at *
    generalize u0.heap.size = g6 at *
    refine wpAnyW_one (i := 0) (by kernel_rfl) rfl (fun K hK => ?_)
    go_simp
    have hb : Below u8.heap.size u8 (u8.alloc (.cells #[] 25)) := (Below.refl _ _).alloc (Nat.le_refl _) _
    have HR := Lib.hid (show TRow (u8.alloc (.cells #[] 25)) W4.heap.size P (some ⟨u8.heap.size, 0, none⟩) 0 0 [] ∧ u8.heap.size < (u8.alloc (.cells #[] 25)).heap.size from ⟨⟨owns_emptyT u8 _ KK.out.size, fun p hp => by cases hp⟩, by simp⟩)
    have hne : g6 ≠ u8.heap.size := by have := (Array.getElem?_eq_some_iff.1 HW.out).1; omega
    replace HW := Lib.hid ((hb.block g6 (Array.getElem?_eq_some_iff.1 HW.out).1).trans HW.out)
    replace KK := Lib.hid (KK.out.trans (hb.mono KK.out.size))
    clear hb
    refine hK.out _ _ (fun _ => HS.out _ KK.out) ?_
    generalize u8.alloc (.cells #[] 25) = u9 at *
    generalize u8.heap.size = g0 at *
    refine wpAnyW_one (i := 3) (by kernel_rfl) rfl (fun K hK => ?_)
    refine step_append_R rfl _ _ rfl rfl HR.out.1 (fun b hb => by have := HP.out b hb; have := HB.out.1.size; have := KK.out.size; omega) rfl ((HQ.out.1.below (HB.out.1.trans (KK.out.mono HB.out.1.size)) HP.out).apart HR.out.1 (fun b hb => Nat.lt_of_lt_of_le (HP.out b hb) HB.out.1.size)) (by have := HL62.out; unfold maxArgs; omega) KK.out.size ?_
    intro A5 c5 u10 hr hb hg
    rw [Nat.zero_add] at hr ⊢
    rw [List.nil_append] at hr
    replace HW := Lib.hid ((hg.block g6 (Array.getElem?_eq_some_iff.1 HW.out).1 (fun e => by injection e with e; exact hne e)).trans HW.out)
    replace HR := Lib.hid hr
    replace KK := Lib.hid (KK.out.trans hb)
    clear hr hb hg
    refine hK.out _ _ (fun _ => HS.out _ KK.out) ?_
    refine wpAnyW_one (i := 7) (by kernel_rfl) rfl (fun K hK => ?_)
    have hwb := HB.out.1.trans (KK.out.mono HB.out.1.size)
    refine step_append_R rfl _ _ rfl rfl HR.out (fun b hb => Nat.lt_of_lt_of_le (HP.out b hb) hwb.size) rfl ((rowP_at (P := P) (n := 2) (ps := [((.mk k2 n2 m2 b2 v2 ts2 : Tm), Value.slice A2 L2 c2), ((.mk k3 n3 m3 b3 v3 ts3 : Tm), Value.slice A3 L3 c3)]) HW.out (by rw [← HN.out.2.2.1, ← HN.out.2.2.2.1, ← HN.out.2.2.2.2.1, ← HN.out.2.2.2.2.2]; rfl) rfl (mem2 (HK.out.1.below hwb HP.out) (HK.out.2.below hwb HP.out))).apart HR.out (fun b hb => Nat.lt_of_lt_of_le (HP.out b hb) HB.out.1.size)) (by have := HL62.out; unfold maxArgs; omega) KK.out.size ?_
    intro A6 c6 u11 hr hb hg
    replace HR := Lib.hid hr
    replace KK := Lib.hid (KK.out.trans hb)
    clear hr hb hg HW hwb
    refine hK.out _ _ (fun _ => HS.out _ KK.out) ?_
    refine wpAnyW_one (i := 8) (by kernel_rfl) rfl (fun K hK => ?_)
    go_simp
    refine hK.out _ _ (fun h => absurd h (by simp)) ?_
    refine wpAnyW_done (by kernel_rfl) ?_ _
    have HU := Lib.hid (show ∃ q, u11 = q from ⟨_, rfl⟩)
    have X4 := Lib.hid (show TBox u11 (G + 1 + 1 + 1) zeroT (.slice none 0 0) from HX.out.2.2.2.below KK.out)
    obtain ⟨x0, x1, x2, x3, x4, x5⟩ := (HX.out.1.below KK.out).cells HN.out.1 HN.out.2.1
    go_wp2_with (go_at_call 32; (with_reducible refine (of_any _ _ _ _ _).mono ?_); rintro e w7 ⟨rfl, hb7⟩; have HB7 := Lib.hid hb7; have X7 := Lib.hid (X4.out.below hb7); obtain ⟨a0, a1, a2, a3, a4, a5⟩ := X7.out.cells rfl rfl; obtain ⟨e0, e1, e2, e3, e4, e5⟩ := X7.out.frozens; clear hb7)
    obtain ⟨hbx, hgr⟩ := X7.out.set6 (k := 5) (b := 0) (v := 0) (n := n1) (m := []) (nb := nb1) (mb := ⟨#[]⟩) (ts1 ++ [.mk k2 n2 m2 b2 v2 ts2, .mk k3 n3 m3 b3 v3 ts3]) (.slice A6 (L1 + 2) c6) HN.out.1 rfl
    generalize (((((w7.setCell ⟨G + 1 + 1 + 1, 0, none⟩ (.int .i64 5)).setCell ⟨G + 1 + 1 + 1, 1, none⟩ (.string nb1)).setCell ⟨G + 1 + 1 + 1, 2, none⟩ (.string ⟨#[]⟩)).setCell ⟨G + 1 + 1 + 1, 3, none⟩ (.int .u64 0)).setCell ⟨G + 1 + 1 + 1, 4, none⟩ (.int .i64 0)).setCell ⟨G + 1 + 1 + 1, 5, none⟩ (.slice A6 (L1 + 2) c6) = w8 at *
    obtain ⟨r0, r1, r2, r3, r4, r5⟩ := hbx.cells HN.out.1 rfl
    have hG := HG.out
    have hW4 := HB.out.2
    have hku := KK.out.size
    have h7s := HB7.out.size
    have hwb := HB.out.1.size
    have hr7 := HR.out.keep HB7.out (fun b hb => by have := HP.out b hb; omega)
    have hr8 := (hr7.keepP (w' := w8) (fun b h1 h2 => hgr.block b h2 (fun e => by injection e with e; omega)) (fun b hb => by
      have := HP.out b hb
      exact hgr.block b (by omega) (fun e => by injection e with e; omega))).wide (Q := Grow P w w8) (fun b hb => .inl hb)
    refine bodyPost_ret (v := .agg #[.int .i64 5, .string nb1, .string ⟨#[]⟩, .int .u64 0, .int .i64 0, .slice A6 (L1 + 2) c6]) (by simp [results, Tryd.results36, go_sem, r0, r1, r2, r3, r4, r5]) rfl ⟨.slice A6 (L1 + 2) c6, congrArg Ending.returned (valT_mk HN.out.1 rfl).symm, ?_, ?_⟩
    · exact hr8.termP (t := cmpT n1 (ts1 ++ [.mk k2 n2 m2 b2 v2 ts2, .mk k3 n3 m3 b3 v3 ts3])) (fun b h1 h2 => .inr ⟨by omega, h2⟩) (by rw [List.map_append, HQ.out.2.1]; rfl) (by have := HL62.out; unfold maxArgs; omega) (okF_cmp HQ.out.2.2)
    · exact ((HB.out.1.trans (KK.out.mono hwb)).trans (HB7.out.mono (by omega))).grown hgr (by omega) (fun j e => by injection e with e; omega)
set_option maxRecDepth 100000 in
set_option maxHeartbeats 8000000 in
theorem put_big {w : World} {P : Nat → Prop} {t f d : Tm} {st sf sd : Value} (h1 : TAtP w P t st) (h2 : TAtP w P f sf) (h3 : TAtP w P d sd) (hP : ∀ b, P b → b < w.heap.size) (h62 : 62 < t.as.length) :
    Calls Tryd.prog 36 #[valT t st, valT f sf, valT d sd] w fun e w' => Threw e w' arityT ∧ Below w.heap.size w w' := by
  obtain ⟨k1, n1, m1, b1, v1, ts1, nb1, mb1, A1, c1, rfl, rfl, hnb1, hmb1, hl1, hc1, hx1, hv1, hs1, hq1⟩ := h1.letters
  obtain ⟨L1, hL1⟩ : ∃ L, ts1.length = L := ⟨_, rfl⟩
  rw [hv1]
  rw [hL1] at h1 hv1 hl1 hx1 ⊢
  obtain ⟨k2, n2, m2, b2, v2, ts2, nb2, mb2, A2, c2, rfl, rfl, hnb2, hmb2, hl2, hc2, hx2, hv2, hs2, hq2⟩ := h2.letters
  obtain ⟨L2, hL2⟩ : ∃ L, ts2.length = L := ⟨_, rfl⟩
  rw [hv2]
  rw [hL2] at h2 hv2 hl2 hx2 ⊢
  obtain ⟨k3, n3, m3, b3, v3, ts3, nb3, mb3, A3, c3, rfl, rfl, hnb3, hmb3, hl3, hc3, hx3, hv3, hs3, hq3⟩ := h3.letters
  obtain ⟨L3, hL3⟩ : ∃ L, ts3.length = L := ⟨_, rfl⟩
  rw [hv3]
  rw [hL3] at h3 hv3 hl3 hx3 ⊢
  change 62 < ts1.length at h62
  rw [hL1] at h62
  obtain ⟨W1, hW1⟩ : ∃ W, w.alloc (.cells #[.int .i64 k1, .string nb1, .string mb1, .int .u64 b1, .int .i64 v1, .slice A1 L1 c1] 25) = W := ⟨_, rfl⟩
  obtain ⟨W2, hW2⟩ : ∃ W, W1.alloc (.cells #[.int .i64 k2, .string nb2, .string mb2, .int .u64 b2, .int .i64 v2, .slice A2 L2 c2] 25) = W := ⟨_, rfl⟩
  obtain ⟨W3, hW3⟩ : ∃ W, W2.alloc (.cells #[.int .i64 k3, .string nb3, .string mb3, .int .u64 b3, .int .i64 v3, .slice A3 L3 c3] 25) = W := ⟨_, rfl⟩
  obtain ⟨W4, hW4⟩ : ∃ W, W3.alloc (.cells #[.int .i64 0, .string ⟨#[]⟩, .string ⟨#[]⟩, .int .u64 0, .int .i64 0, .slice none 0 0] 25) = W := ⟨_, rfl⟩
  have d1 : Below w.heap.size w W1 := by rw [← hW1]; exact (Below.refl _ _).alloc (Nat.le_refl _) _
  have s1 : W1.heap.size = w.heap.size + 1 := by rw [← hW1]; simp
  have X1 : TBox W1 w.heap.size (.mk k1 n1 m1 b1 v1 ts1) (.slice A1 L1 c1) := by rw [← hW1]; exact TBox.new w hnb1 hmb1
  have d2 : Below W1.heap.size W1 W2 := by rw [← hW2]; exact (Below.refl _ _).alloc (Nat.le_refl _) _
  have s2 : W2.heap.size = W1.heap.size + 1 := by rw [← hW2]; simp
  have X2 : TBox W2 W1.heap.size (.mk k2 n2 m2 b2 v2 ts2) (.slice A2 L2 c2) := by rw [← hW2]; exact TBox.new W1 hnb2 hmb2
  have d3 : Below W2.heap.size W2 W3 := by rw [← hW3]; exact (Below.refl _ _).alloc (Nat.le_refl _) _
  have s3 : W3.heap.size = W2.heap.size + 1 := by rw [← hW3]; simp
  have X3 : TBox W3 W2.heap.size (.mk k3 n3 m3 b3 v3 ts3) (.slice A3 L3 c3) := by rw [← hW3]; exact TBox.new W2 hnb3 hmb3
  have d4 : Below W3.heap.size W3 W4 := by rw [← hW4]; exact (Below.refl _ _).alloc (Nat.le_refl _) _
  have s4 : W4.heap.size = W3.heap.size + 1 := by rw [← hW4]; simp
  have X4 : TBox W4 W3.heap.size zeroT (.slice none 0 0) := by rw [← hW4]; exact heap_alloc_new W3 _
  replace X1 := X1.below d2
  replace X1 := X1.below d3
  replace X1 := X1.below d4
  replace X2 := X2.below d3
  replace X2 := X2.below d4
  replace X3 := X3.below d4
  have hbw : Below w.heap.size w W4 := d1.trans ((d2.trans ((d3.trans ((d4).mono (by omega))).mono (by omega))).mono (by omega))
  rw [s3, s2, s1] at X4
  rw [s2, s1] at X3
  rw [s1] at X2
  have hsz : W4.heap.size = w.heap.size + 1 + 1 + 1 + 1 := by omega
  obtain ⟨x0, x1, x2, x3, x4, x5⟩ := X1.cells hnb1 hmb1
  have HB := Lib.hid hbw
  have hLI : (62 : Int) < (L1 : Int) := by omega
  have hLI2 : (L1 : Int) ≤ 1759218604400 := by unfold maxArgs at hx1; omega
  subst hW1 hW2 hW3 hW4
  clear h1 h2 h3 hbw hsz X1 X2 X3 X4 s1 s2 s3 s4 d1 d2 d3 d4 hnb1 hmb1 hnb2 hmb2 hnb3 hmb3 hv1 hv2 hv3 hs1 hs2 hs3 hq1 hq2 hq3 h62 hP
  go_enter Tryd.func36, Tryd.ntmps36
  go_wp2_with (first
    | (go_at_call 33; (with_reducible refine (atom_any _ _).mono ?_); rintro e w4 ⟨rfl, hb4⟩; have HB4 := Lib.hid (HB.out.trans (hb4.mono HB.out.size)); clear hb4)
    | (go_at_call 32; (with_reducible refine (of_any _ _ _ _ _).mono ?_); rintro e w5 ⟨rfl, hb5⟩; have hbu := built (w := w4) (P := fun _ => False) (s := sRepr) (n := 1) (cs := #[.int .i64 2, .string ⟨#[109, 97, 120, 95, 97, 114, 105, 116, 121]⟩, .string ⟨#[]⟩, .int .u64 0, .int .i64 0, .slice none 0 0]) (ps := [(atomT sArity, Value.slice none 0 0)]) rfl rfl (mem1 (atom_at _ _ (by decide))) (fun b hb => hb.elim) (by unfold maxArgs; omega) (by decide); have HT5 := Lib.hid (TAt.any hbu (fun b hb => by rcases hb with hb | rfl <;> simp at *) hb5); have HB5 := Lib.hid ((HB4.out.alloc HB4.out.size (.cells #[.int .i64 2, .string ⟨#[109, 97, 120, 95, 97, 114, 105, 116, 121]⟩, .string ⟨#[]⟩, .int .u64 0, .int .i64 0, .slice none 0 0] 25)).trans (hb5.mono (HB4.out.alloc HB4.out.size (.cells #[.int .i64 2, .string ⟨#[109, 97, 120, 95, 97, 114, 105, 116, 121]⟩, .string ⟨#[]⟩, .int .u64 0, .int .i64 0, .slice none 0 0] 25)).size)); clear hb5 hbu)
    | (go_at_call 31; (with_reducible refine (throw_lit rfl rfl HT5.out).mono ?_); rintro e w6 ⟨⟨bb, rfl, hball⟩, hb6⟩; have HB6 := Lib.hid (And.intro hball (HB5.out.trans (hb6.mono HB5.out.size))); clear hball hb6))
  exact ⟨rfl, ⟨bb, rfl, HB6.out.1⟩, HB6.out.2⟩
end Go.Proofs.YtgfeainpeplphaaDoor

import Derived.Test.YtgfeainpeplphaaDoorHj
namespace Go.Proofs.YtgfeainpeplphaaDoor
open Go.RowKit Hb Ht
set_option linter.unusedVariables false
set_option linter.unusedSimpArgs false
attribute [local go_sem] Oper.semAt_some
/-! ### the reference's Own -/
def FreshT (w w' : World) (t : Tm) (sl : Value) : Prop := TAtP w' (fun b => w.heap.size ≤ b ∧ b < w'.heap.size) t sl
theorem FreshT.at_ {w w' : World} {t : Tm} {sl : Value} (h : FreshT w w' t sl) : TAt w' w'.heap.size t sl := TAtP.keep _ h (fun b hb => ⟨hb.2, rfl⟩)
def ROwnOk (t : Tm) : Prop := ∀ (w : World) (sl : Value), TAt w w.heap.size t sl → Calls Tryd.prog 8 #[valT t sl] w fun e w' => ∃ sl', e = .returned (valT t sl') ∧ FreshT w w' t sl' ∧ Below w.heap.size w w'
theorem fresh_letters {f : Nat} {args : Array Value} {w : World} {k b v : Int} {n m : List UInt8} {ts : List Tm} {nb mb : ByteArray} {q : Nat} (hn : (⟨n.toArray⟩ : ByteArray) = nb) (hm : (⟨m.toArray⟩ : ByteArray) = mb) (hq : ts.length = q)
    (h : Calls Tryd.prog f args w fun e w' => ∃ sl', e = .returned (valT (.mk k n m b v ts) sl') ∧ FreshT w w' (.mk k n m b v ts) sl' ∧ Below w.heap.size w w') :
    Calls Tryd.prog f args w fun e w' => ∃ A c, e = .returned (.agg #[.int .i64 k, .string nb, .string mb, .int .u64 b, .int .i64 v, .slice A q c]) ∧ FreshT w w' (.mk k n m b v ts) (.slice A q c) ∧ Below w.heap.size w w' :=
  h.mono fun e w' ⟨sl', he, hf, hb⟩ => by
    obtain ⟨A, c, rfl, _⟩ := hf.at_.slice
    change e = .returned (valT _ (.slice A ts.length c)) at he
    change FreshT w w' _ (.slice A ts.length c) at hf
    rw [valT_mk hn hm, hq] at he
    rw [hq] at hf
    exact ⟨A, c, he, hf, hb⟩
def ROwnS (G G5 g o : Nat) (vO vI : Value) (k : Int) (nb mb : ByteArray) (b v : Int) (sl : Value) (w' : World) : Prop :=
  w'.cell? ⟨G5, 5, none⟩ = some vO ∧ w'.cell? ⟨G, 5, none⟩ = some vI ∧ w'.cell? ⟨g, o, none⟩ = some (.int .i64 k) ∧ w'.cell? ⟨g, o + 1, none⟩ = some (.string nb) ∧ w'.cell? ⟨g, o + 2, none⟩ = some (.string mb) ∧ w'.cell? ⟨g, o + 3, none⟩ = some (.int .u64 b) ∧ w'.cell? ⟨g, o + 4, none⟩ = some (.int .i64 v) ∧ w'.cell? ⟨g, o + 5, none⟩ = some sl
theorem ROwnS.keep {G G5 g o : Nat} {vO vI : Value} {k : Int} {nb mb : ByteArray} {b v : Int} {sl : Value} {w w' : World} (h : ROwnS G G5 g o vO vI k nb mb b v sl w) (h5 : w'.heap[G5]? = w.heap[G5]?) (h1 : w'.heap[G]? = w.heap[G]?) (hg : w'.heap[g]? = w.heap[g]?) : ROwnS G G5 g o vO vI k nb mb b v sl w' := by
  obtain ⟨s1, s2, s3, s4, s5, s6, s7, s8⟩ := h
  exact ⟨(World.cell?_of_block (a := ⟨G5, 5, none⟩) h5).trans s1, (World.cell?_of_block (a := ⟨G, 5, none⟩) h1).trans s2, (World.cell?_of_block (a := ⟨g, o, none⟩) hg).trans s3, (World.cell?_of_block (a := ⟨g, o + 1, none⟩) hg).trans s4, (World.cell?_of_block (a := ⟨g, o + 2, none⟩) hg).trans s5, (World.cell?_of_block (a := ⟨g, o + 3, none⟩) hg).trans s6, (World.cell?_of_block (a := ⟨g, o + 4, none⟩) hg).trans s7, (World.cell?_of_block (a := ⟨g, o + 5, none⟩) hg).trans s8⟩
structure ROwnI (w : World) (G A2n A2c : Nat) (A2 : Option Addr) (t : Tm) (sl : Value) (ps : List (Tm × Value)) (wr : World) : Prop where
  bel : Below w.heap.size w wr
  le : G + 1 + 1 + 1 ≤ wr.heap.size
  t1 : TBox wr G t sl
  t2 : TBox wr (G + 1) zeroT (.slice none 0 0)
  t3 : TBox wr (G + 1 + 1) t (.slice A2 A2n A2c)
  row : TRow wr (G + 1 + 1 + 1) (fun b => G + 1 + 1 + 1 ≤ b ∧ b < wr.heap.size) A2 A2n A2c ps
set_option maxRecDepth 100000 in
set_option maxHeartbeats 8000000 in
theorem ROwn_any (t : Tm) : ROwnOk t := by
  refine Tm.ind (p := ROwnOk) (fun k nl ml b v ts ih => ?_) t
  intro w sl h
  obtain ⟨A, c, rfl, hl1, hl2, hl3⟩ := h.slice
  have hok := h.ok
  obtain ⟨nb, hnb⟩ : ∃ nb : ByteArray, (⟨nl.toArray⟩ : ByteArray) = nb := ⟨_, rfl⟩
  obtain ⟨mb, hmb⟩ : ∃ mb : ByteArray, (⟨ml.toArray⟩ : ByteArray) = mb := ⟨_, rfl⟩
  obtain ⟨L, hL⟩ : ∃ L, ts.length = L := ⟨_, rfl⟩
  change ts.length ≤ c at hl1
  change ts.length ≤ maxArgs at hl3
  change TAt w w.heap.size (.mk k nl ml b v ts) (.slice A ts.length c) at h
  change Calls Tryd.prog 8 #[valT _ (.slice A ts.length c)] w _
  rw [valT_mk hnb hmb]
  rw [hL] at h hl1 hl3 ⊢
  have HIH := Lib.hid ih
  have HL := Lib.hid hL
  have HM := Lib.hid (And.intro hnb hmb)
  have HOk := Lib.hid hok
  have HMx := Lib.hid hl3
  have hLI : (L : Int) ≤ 1759218604400 := by unfold maxArgs at hl3; omega
  obtain ⟨W1, hW1⟩ : ∃ W1, w.alloc (.cells #[.int .i64 k, .string nb, .string mb, .int .u64 b, .int .i64 v, .slice A L c] 25) = W1 := ⟨_, rfl⟩
  obtain ⟨W2, hW2⟩ : ∃ W2, W1.alloc (.cells #[.int .i64 0, .string ⟨#[]⟩, .string ⟨#[]⟩, .int .u64 0, .int .i64 0, .slice none 0 0] 25) = W2 := ⟨_, rfl⟩
  obtain ⟨W3, hW3⟩ : ∃ W3, W2.alloc (.cells #[.int .i64 k, .string nb, .string mb, .int .u64 b, .int .i64 v, .slice none 0 0] 25) = W3 := ⟨_, rfl⟩
  have hb1 : Below w.heap.size w W1 := by rw [← hW1]; exact (Below.refl _ _).alloc (Nat.le_refl _) _
  have s1 : W1.heap.size = w.heap.size + 1 := by rw [← hW1]; simp
  have hb2 : Below W1.heap.size W1 W2 := by rw [← hW2]; exact (Below.refl _ _).alloc (Nat.le_refl _) _
  have s2 : W2.heap.size = W1.heap.size + 1 := by rw [← hW2]; simp
  have hb3 : Below W2.heap.size W2 W3 := by rw [← hW3]; exact (Below.refl _ _).alloc (Nat.le_refl _) _
  have s3 : W3.heap.size = W2.heap.size + 1 := by rw [← hW3]; simp
  have hX1 : TBox W1 w.heap.size (.mk k nl ml b v ts) (.slice A L c) := by rw [← hW1]; exact TBox.new w hnb hmb
  have hX2 : TBox W2 W1.heap.size zeroT (.slice none 0 0) := by rw [← hW2]; exact heap_alloc_new W1 _
  have hX3 : TBox W3 W2.heap.size (.mk k nl ml b v ts) (.slice none 0 0) := by rw [← hW3]; exact TBox.new W2 hnb hmb
  have hX1' := (hX1.below hb2).below hb3
  have hX2' := hX2.below hb3
  rw [s2, s1] at hX3
  rw [s1] at hX2'
  have hF := (hX1.cells hnb hmb)
  obtain ⟨x0, x1, x2, x3, x4, x5⟩ := (hX1.below hb2).cells hnb hmb
  have HB := Lib.hid (hb1.trans ((hb2.trans (hb3.mono (by omega))).mono (by omega)))
  have HX := Lib.hid (And.intro hX1' (And.intro hX2' hX3))
  have HT := Lib.hid h
  have HS := Lib.hid (show w.heap.size + 1 + 1 + 1 ≤ W3.heap.size by omega)
  have HW := Lib.hid hW3
  have HI0 := Lib.hid (show ROwnI w w.heap.size 0 0 none (.mk k nl ml b v ts) (.slice A L c) [] W3 from ⟨HB.out, HS.out, hX1', hX2', hX3, TRow.nil _ _ _⟩)
  subst hW1 hW2
  clear ih h hL hnb hmb hok hl3 hX1 hX2 hX3 hX1' hX2' hb1 hb2 hb3 s1 s2 s3 hF hW3
  go_enter Tryd.func8, Tryd.ntmps8
  go_upto_region 4 with fail
  rw [HW.out]
  clear x0 x1 x2 x3 x4 x5 HW
  obtain ⟨G, hG⟩ : ∃ G, w.heap.size = G := ⟨_, rfl⟩
  have HG := Lib.hid hG
  rw [hG] at HI0 ⊢
  clear hG HB HX HS
  go_loopw [4] (fun v4 wr => ∃ i A2 c2 ps, v4 = .int .i64 (i : Nat) ∧ i ≤ L ∧ Hid (ROwnI w G i c2 A2 (.mk k nl ml b v ts) (.slice A L c) ps wr ∧ ps.map (·.1) = ts.take i)) (fun v4 _ => ((L : Int) - intOf v4).toNat)
  case atStart => exact ⟨0, none, 0, [], rfl, Nat.zero_le _, Lib.hid ⟨HI0.out, by simp⟩⟩
  case round =>
    obtain ⟨i, A2, c2, ps, rfl, hi, HI⟩ := hrel
    obtain ⟨x0, x1, x2, x3, x4, x5⟩ := HI.out.1.t1.cells HM.out.1 HM.out.2
    obtain ⟨y0, y1, y2, y3, y4, y5⟩ := HI.out.1.t3.cells HM.out.1 HM.out.2
    by_cases hlt : i < L
    · have hltI : (i : Int) < (L : Int) := by omega
      have hi0 : (0 : Int) ≤ (i : Int) := by omega
      have hil : i < ts.length := by rw [HL.out]; exact hlt
      obtain ⟨a, ha⟩ : ∃ a, ts[i]? = some a := ⟨_, List.getElem?_eq_getElem hil⟩
      obtain ⟨g, o, rfl, hgB, helt⟩ := (HT.out.to HI.out.1.bel HI.out.1.bel.size).arg ha
      obtain ⟨A', c', k', n', m', b', v', ts', nb', mb', rfl, hnb', hmb', hta, e0, e1, e2, e3, e4, e5⟩ := EltAt.cells helt
      obtain ⟨q, hq⟩ : ∃ q, ts'.length = q := ⟨_, rfl⟩
      have HCl := Lib.hid (fresh_letters hnb' hmb' hq (HIH.out _ (List.mem_of_getElem? ha) wr.drew _ (hta.to (below_drew' wr) (Nat.le_refl _))))
      rw [valT_mk hnb' hmb'] at HCl
      have HN := Lib.hid (And.intro hnb' hmb')
      have HLT := Lib.hid hlt
      have hgw : g < w.heap.size := by
        obtain ⟨g1, o1, e9, hg1, _⟩ := HT.out.arg ha
        cases e9; exact hg1
      have HGW := Lib.hid hgw
      have HTk := Lib.hid (show ts.take (i + 1) = ts.take i ++ [.mk k' n' m' b' v' ts'] by rw [List.take_succ_eq_append_getElem hil, (List.getElem?_eq_some_iff.1 ha).2])
      rw [hq] at e5 HCl
      have hcap := HI.out.1.row.cap
      clear helt hta hnb' hmb' ha hil hlt hi hq hgw
      have KS : ROwnS G (G + 1 + 1) g (o + i * 6) (.slice A2 i c2) (.slice (some ⟨g, o, none⟩) L c) k' nb' mb' b' v' (.slice A' q c') wr := ⟨y5, x5, e0, e1, e2, e3, e4, e5⟩
      clear x0 x1 x2 x3 x4 y0 y1 y2 y3 y4
      go_upto_region 6 with fail
      refine wp_region_wait (ROwnS G (G + 1 + 1) g (o + i * 6) (.slice A2 i c2) (.slice (some ⟨g, o, none⟩) L c) k' nb' mb' b' v' (.slice A' q c')) 11 (by kernel_rfl) ?_
      refine wpAnyW_take 11 (i := 0) (v := .pointer (some ⟨G + 1 + 1, 5, none⟩)) rfl (by kernel_rfl) (by kernel_rfl) (by kernel_rfl) (by kernel_rfl) (fun _ _ _ h => h) (Or.inl ⟨by rfl, ?_⟩) (by exact KS) ?_
      · intro w5 hSw
        obtain ⟨s1, s2, s3, s4, s5, s6, s7, s8⟩ := hSw
        go_simp
      refine wpAnyW_take 11 (i := 1) (v := .slice A2 i c2) rfl (by kernel_rfl) (by kernel_rfl) (by kernel_rfl) (by kernel_rfl) (fun _ _ _ h => h) (Or.inl ⟨by rfl, ?_⟩) (by exact KS) ?_
      · intro w5 hSw
        obtain ⟨s1, s2, s3, s4, s5, s6, s7, s8⟩ := hSw
        go_simp
      refine wpAnyW_take 11 (i := 2) (v := .pointer (some ⟨G, 5, none⟩)) rfl (by kernel_rfl) (by kernel_rfl) (by kernel_rfl) (by kernel_rfl) (fun _ _ _ h => h) (Or.inl ⟨by rfl, ?_⟩) (by exact KS) ?_
      · intro w5 hSw
        obtain ⟨s1, s2, s3, s4, s5, s6, s7, s8⟩ := hSw
        go_simp
      refine wpAnyW_take 11 (i := 3) (v := .slice (some ⟨g, o, none⟩) L c) rfl (by kernel_rfl) (by kernel_rfl) (by kernel_rfl) (by kernel_rfl) (fun _ _ _ h => h) (Or.inl ⟨by rfl, ?_⟩) (by exact KS) ?_
      · intro w5 hSw
        obtain ⟨s1, s2, s3, s4, s5, s6, s7, s8⟩ := hSw
        go_simp
      refine wpAnyW_take 11 (i := 4) (v := .int .i64 (i : Int)) rfl (by kernel_rfl) (by kernel_rfl) (by kernel_rfl) (by kernel_rfl) (fun _ _ _ h => h) (Or.inl ⟨by rfl, ?_⟩) (by exact KS) ?_
      · intro w5 hSw
        obtain ⟨s1, s2, s3, s4, s5, s6, s7, s8⟩ := hSw
        go_simp
      refine wpAnyW_take 11 (i := 5) (v := .pointer (some ⟨g, o + i * 6, none⟩)) rfl (by kernel_rfl) (by kernel_rfl) (by kernel_rfl) (by kernel_rfl) (fun _ _ _ h => h) (Or.inl ⟨by rfl, ?_⟩) (by exact KS) ?_
      · intro w5 hSw
        obtain ⟨s1, s2, s3, s4, s5, s6, s7, s8⟩ := hSw
        go_simp
      refine wpAnyW_take 11 (i := 6) (v := (.agg #[.int .i64 k', .string nb', .string mb', .int .u64 b', .int .i64 v', .slice A' q c'])) rfl (by kernel_rfl) (by kernel_rfl) (by kernel_rfl) (by kernel_rfl) (fun _ _ _ h => h) (Or.inl ⟨by rfl, ?_⟩) (by exact KS) ?_
      · intro w5 hSw
        obtain ⟨s1, s2, s3, s4, s5, s6, s7, s8⟩ := hSw
        go_simp
      refine wpAnyW_one (i := 7) (by kernel_rfl) rfl (fun K hK => ?_)
      go_simp
      (with_reducible refine HCl.out.mono ?_)
      rintro ex w2 ⟨A4, c4, rfl, hf2, hb2⟩
      have hbw : Below wr.heap.size wr w2 := (below_drew' wr).trans hb2
      have KS2 := KS.keep (hbw.block _ HI.out.1.t3.lt) (hbw.block _ HI.out.1.t1.lt) (hbw.block _ hgB)
      have HBw := Lib.hid hbw
      have HF2 := Lib.hid hf2
      clear hf2 hb2 hbw
      refine hK.out _ _ (fun _ => KS2) ?_
      refine wpAnyW_one (i := 8) (by kernel_rfl) rfl (fun K hK => ?_)
      go_simp
      have hb3 : Below w2.heap.size w2 (w2.alloc (.cells #[.int .i64 k', .string nb', .string mb', .int .u64 b', .int .i64 v', .slice A4 q c4] 25)) := (Below.refl _ _).alloc (Nat.le_refl _) _
      have hbw3 := HBw.out.trans (hb3.mono HBw.out.size)
      have KS3 := KS.keep (hbw3.block _ HI.out.1.t3.lt) (hbw3.block _ HI.out.1.t1.lt) (hbw3.block _ hgB)
      have hrow := (HI.out.1.row.keep hbw3 (fun b hb => hb.2)).wide (Q := fun b => G + 1 + 1 + 1 ≤ b ∧ b < (w2.alloc (.cells #[.int .i64 k', .string nb', .string mb', .int .u64 b', .int .i64 v', .slice A4 q c4] 25)).heap.size) (fun b hb => ⟨hb.1, Nat.lt_of_lt_of_le hb.2 hbw3.size⟩)
      have hown := HI.out.1.row.block
      have hkid : TAtP (w2.alloc (.cells #[.int .i64 k', .string nb', .string mb', .int .u64 b', .int .i64 v', .slice A4 q c4] 25)) (fun b => (G + 1 + 1 + 1 ≤ b ∧ b < (w2.alloc (.cells #[.int .i64 k', .string nb', .string mb', .int .u64 b', .int .i64 v', .slice A4 q c4] 25)).heap.size) ∧ (Value.slice A2 i c2).ownBlock ≠ some b) (.mk k' n' m' b' v' ts') (.slice A4 q c4) := TAtP.keep _ HF2.out (fun b hb => by
        have hle := HI.out.1.le
        have hwb : wr.heap.size ≤ b := hb.1
        refine ⟨⟨⟨by omega, Nat.lt_of_lt_of_le hb.2 hb3.size⟩, ?_⟩, hb3.block b hb.2⟩
        rcases hown with ⟨h1, _⟩ | ⟨g1, h1, h2, h3, h4⟩
        · subst h1; simp [Value.ownBlock]
        · rw [h4]; intro e; injection e with e; omega)
      have HR3 := Lib.hid (And.intro hrow (And.intro hkid hbw3))
      have hnews := heap_alloc_new w2 (.cells #[.int .i64 k', .string nb', .string mb', .int .u64 b', .int .i64 v', .slice A4 q c4] 25)
      have HNw := Lib.hid (show ∀ j u, (fl6 [((.mk k' n' m' b' v' ts' : Tm), Value.slice A4 q c4)])[j]? = some u → (w2.alloc (.cells #[.int .i64 k', .string nb', .string mb', .int .u64 b', .int .i64 v', .slice A4 q c4] 25)).cell? ((⟨w2.heap.size, 0, none⟩ : Addr).add j) = some u from fun j u hj => by
        rw [add_zero', cell_of_row _ w2.heap.size j _ _ (0, 0) hnews, ← hj, ← HN.out.1, ← HN.out.2]
        simp [fl6, cells6, Tm.k, Tm.n, Tm.m, Tm.b, Tm.v])
      clear hb3 hbw3 hrow hkid hnews hown
      generalize w2.alloc (.cells #[.int .i64 k', .string nb', .string mb', .int .u64 b', .int .i64 v', .slice A4 q c4] 25) = w3 at *
      refine hK.out _ _ (fun _ => KS3) ?_
      refine wpAnyW_one (i := 9) (by kernel_rfl) rfl (fun K hK => ?_)
      refine step_append_T rfl _ _ rfl [((.mk k' n' m' b' v' ts' : Tm), Value.slice A4 q c4)] rfl HR3.out.1 (fun b hb => hb.2) ⟨w2.heap.size, 0, none⟩ 1 1 rfl rfl (fun x hx => by rw [List.mem_singleton.1 hx]; exact HR3.out.2.1) HNw.out (by have := HMx.out; have := HLT.out; omega) (by have := HI.out.1.le; have := HR3.out.2.2.size; omega) ?_
      intro A5 c5 w4 hr4 hb4 hg4
      have hgG : g < G := by rw [← HG.out]; exact HGW.out
      have hle := HI.out.1.le
      have e5 : w4.heap[G + 1 + 1]? = wr.heap[G + 1 + 1]? := (hb4.block _ (by omega)).trans (HR3.out.2.2.block _ (by omega))
      have e1 : w4.heap[G]? = wr.heap[G]? := (hb4.block _ (by omega)).trans (HR3.out.2.2.block _ (by omega))
      have e2 : w4.heap[G + 1]? = wr.heap[G + 1]? := (hb4.block _ (by omega)).trans (HR3.out.2.2.block _ (by omega))
      have KS4 := KS.keep e5 e1 ((hb4.block _ (by omega)).trans (HR3.out.2.2.block _ (by omega)))
      have ht1 : TBox w4 G (.mk k nl ml b v ts) (.slice (some ⟨g, o, none⟩) L c) := e1.trans HI.out.1.t1
      have ht2 : TBox w4 (G + 1) zeroT (.slice none 0 0) := e2.trans HI.out.1.t2
      have ht3 : TBox w4 (G + 1 + 1) (.mk k nl ml b v ts) (.slice A2 i c2) := e5.trans HI.out.1.t3
      have z5 := ht3.frozen 5
      obtain ⟨_, _, _, _, _, y5⟩ := ht3.cells HM.out.1 HM.out.2
      have hsz : wr.heap.size ≤ w4.heap.size := Nat.le_trans HR3.out.2.2.size hg4.size
      have hbel : Below G w w4 := by
        have h1 := HI.out.1.bel
        rw [HG.out] at h1
        exact h1.trans ((HR3.out.2.2.mono (by omega)).trans (hb4.mono (by omega)))
      have HE := Lib.hid (show ROwnI w G (i + 1) c5 A5 (.mk k nl ml b v ts) (.slice (some ⟨g, o, none⟩) L c) (ps ++ [((.mk k' n' m' b' v' ts' : Tm), Value.slice A4 q c4)]) (w4.setCell ⟨G + 1 + 1, 5, none⟩ (.slice A5 (i + 1) c5)) from
        ⟨by rw [HG.out]; exact hbel.setCell (by show G ≤ G + 1 + 1; omega) _, by show _ ≤ (w4.setCell _ _).heap.size; simp [World.setCell]; omega, ht1.far (by show G ≠ G + 1 + 1; omega) _, ht2.far (by show G + 1 ≠ G + 1 + 1; omega) _, ht3.args _,
          (hr4.keepP (fun b hb _ => Below.heap_setCell _ _ _ b (by show b ≠ G + 1 + 1; omega)) (fun b hb => Below.heap_setCell _ _ _ b (by show b ≠ G + 1 + 1; omega))).wide (fun b hb => ⟨hb.1, by
            have h1 := hb.2; have h2 := hg4.size
            simp [World.setCell]; omega⟩)⟩)
      have HE2 := Lib.hid (show (ps ++ [((.mk k' n' m' b' v' ts' : Tm), Value.slice A4 q c4)]).map (·.1) = ts.take (i + 1) from by rw [List.map_append, HI.out.2, HTk.out]; rfl)
      clear hr4 hb4 hg4 hle e5 e1 e2 ht1 ht2 ht3 hsz hbel hgG
      refine hK.out _ _ (fun _ => KS4) ?_
      refine wpAnyW_one (i := 10) (by kernel_rfl) rfl (fun K hK => ?_)
      go_simp
      refine hK.out _ _ (fun _ => KS4) ?_
      refine wpAnyW_one (i := 11) (by kernel_rfl) rfl (fun K hK => ?_)
      go_simp
      refine hK.out _ _ (fun h => absurd h (by simp)) ?_
      refine wpAnyW_done (by kernel_rfl) ?_ _
      clear KS KS2 KS3 KS4 z5
      go_wp2
      go_roundw
      case rel => exact ⟨i + 1, A5, c5, _, rfl, HLT.out, Lib.hid ⟨HE.out, HE2.out⟩⟩
      case measure =>
        have := HLT.out
        show ((L : Int) - ((i : Int) + 1)).toNat < ((L : Int) - (i : Int)).toNat
        omega
    · have ei : i = L := by omega
      subst ei
      obtain ⟨u0, u1, u2, u3, u4, u5⟩ := HI.out.1.t2.cells rfl rfl
      have v0 := HI.out.1.t2.frozen 0
      have v1 := HI.out.1.t2.frozen 1
      have v2 := HI.out.1.t2.frozen 2
      have v3 := HI.out.1.t2.frozen 3
      have v4 := HI.out.1.t2.frozen 4
      have v5 := HI.out.1.t2.frozen 5
      clear hlt hi
      have HE := Lib.hid HI.out
      go_wp2
      obtain ⟨hbx, hgr⟩ := HE.out.1.t2.set6 (k := k) (b := b) (v := v) ts (.slice A2 i c2) HM.out.1 HM.out.2
      generalize (((((wr.setCell ⟨G + 1, 0, none⟩ (.int .i64 k)).setCell ⟨G + 1, 1, none⟩ (.string nb)).setCell ⟨G + 1, 2, none⟩ (.string mb)).setCell ⟨G + 1, 3, none⟩ (.int .u64 b)).setCell ⟨G + 1, 4, none⟩ (.int .i64 v)).setCell ⟨G + 1, 5, none⟩ (.slice A2 i c2) = w6 at *
      obtain ⟨r0, r1, r2, r3, r4, r5⟩ := hbx.cells HM.out.1 HM.out.2
      have hle := HE.out.1.le
      have hGw := HG.out
      have hbel := HE.out.1.bel
      have hkeep : ∀ b, G + 1 + 1 + 1 ≤ b → b < wr.heap.size → w6.heap[b]? = wr.heap[b]? := fun b h1 h2 => hgr.block b h2 (fun e => by injection e with e; omega)
      refine bodyPost_ret (v := .agg #[.int .i64 k, .string nb, .string mb, .int .u64 b, .int .i64 v, .slice A2 i c2]) (by simp [results, Tryd.results8, go_sem, r0, r1, r2, r3, r4, r5]) rfl ⟨.slice A2 i c2, by rw [valT_mk HM.out.1 HM.out.2], ?_, ?_⟩
      · have h9 := HE.out.1.row.termP (t := .mk k nl ml b v ts) (fun b h1 h2 => ⟨h1, h2⟩) (by show ts = _; rw [HE.out.2, List.take_of_length_le (by rw [HL.out]; exact Nat.le_refl _)]) HMx.out HOk.out
        refine TAtP.keep _ h9 (fun b hb => ⟨⟨by have := hb.1; omega, Nat.lt_of_lt_of_le hb.2 hgr.size⟩, hkeep b hb.1 hb.2⟩)
      · exact hbel.grown hgr hbel.size (fun j e => by injection e with e; omega)
end Go.Proofs.YtgfeainpeplphaaDoor

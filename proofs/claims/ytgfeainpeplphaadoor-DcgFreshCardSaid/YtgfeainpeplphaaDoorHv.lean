import Derived.Test.YtgfeainpeplphaaDoorHu
namespace Go.Proofs.YtgfeainpeplphaaDoor
open Go.RowKit Hb Ht
set_option linter.unusedVariables false
set_option linter.unusedSimpArgs false
attribute [local go_sem] Oper.semAt_some
/-! ### term.nodes, term.Check -/
theorem errss_drop {ts : List Tm} {i : Nat} {a : Tm} (ha : ts[i]? = some a) {R : Int} (h : errss Lib.validD canonB floB (ts.drop i) = R) : (errsP a ≠ 0 → errsP a = R) ∧ (errsP a = 0 → errss Lib.validD canonB floB (ts.drop (i + 1)) = R) := by
  obtain ⟨hil, e⟩ := List.getElem?_eq_some_iff.1 ha
  rw [List.drop_eq_getElem_cons hil, e, errss] at h
  by_cases h0 : errs Lib.validD canonB floB a = 0
  · rw [if_neg (by simp [h0])] at h
    exact ⟨fun h1 => absurd h0 h1, fun _ => h⟩
  · rw [if_pos h0] at h
    exact ⟨fun _ => h, fun h1 => absurd h1 h0⟩
def NodesOk (w0 : World) (t : Tm) : Prop := ∀ (w : World) (sl : Value), TAt w w.heap.size t sl → UOk w0 w → Calls Tryd.prog 69 #[valT t sl] w fun e w' => e = .returned (.int .i64 (errsP t)) ∧ Below w.heap.size w w'
set_option maxRecDepth 100000 in
set_option maxHeartbeats 4000000 in
theorem nodes_any (w0 : World) (t : Tm) : NodesOk w0 t := by
  refine Tm.ind (p := NodesOk w0) (fun k nl ml b v ts ih => ?_) t
  intro w sl h hU
  obtain ⟨A, c, rfl, hl1, hl2, hl3⟩ := h.slice
  obtain ⟨nb, hnb⟩ : ∃ nb : ByteArray, (⟨nl.toArray⟩ : ByteArray) = nb := ⟨_, rfl⟩
  obtain ⟨mb, hmb⟩ : ∃ mb : ByteArray, (⟨ml.toArray⟩ : ByteArray) = mb := ⟨_, rfl⟩
  obtain ⟨L, hL⟩ : ∃ L, ts.length = L := ⟨_, rfl⟩
  change ts.length ≤ c at hl1
  change ts.length ≤ maxArgs at hl3
  change TAt w w.heap.size (.mk k nl ml b v ts) (.slice A ts.length c) at h
  change Calls Tryd.prog 69 #[valT _ (.slice A ts.length c)] w _
  have hNd := fun w1 (hb : Below w.heap.size w w1) => node_any (w0 := w0) (h.to hb hb.size) (hU.below hb)
  simp only [valT_mk hnb hmb] at hNd
  rw [valT_mk hnb hmb]
  rw [hL] at h hl1 hl3 hNd ⊢
  obtain ⟨R, hR⟩ : ∃ R, errsP (.mk k nl ml b v ts) = R := ⟨_, rfl⟩
  obtain ⟨R0, hR0⟩ : ∃ R0, oneP (.mk k nl ml b v ts) = R0 := ⟨_, rfl⟩
  rw [hR]
  have HR := Lib.hid (show (R0 ≠ 0 → R0 = R) ∧ (R0 = 0 → errss Lib.validD canonB floB ts = R) from by
    have h9 : (if oneP (.mk k nl ml b v ts) ≠ 0 then oneP (.mk k nl ml b v ts) else errss Lib.validD canonB floB ts) = R := hR
    rw [hR0] at h9
    by_cases h0 : R0 = 0
    · rw [if_neg (by simp [h0])] at h9; exact ⟨fun h => absurd h0 h, fun _ => h9⟩
    · rw [if_pos h0] at h9; exact ⟨fun _ => h9, fun h => absurd h h0⟩)
  have HNd := Lib.hid hNd
  rw [hR0] at HNd
  have HIH := Lib.hid ih
  have HT := Lib.hid h
  have HU := Lib.hid hU
  have HL := Lib.hid hL
  have HM := Lib.hid (And.intro hnb hmb)
  have hLI : (L : Int) ≤ 1759218604400 := by unfold maxArgs at hl3; omega
  obtain ⟨W1, hW1⟩ : ∃ W1, w.alloc (.cells #[.int .i64 k, .string nb, .string mb, .int .u64 b, .int .i64 v, .slice A L c] 25) = W1 := ⟨_, rfl⟩
  have hb1 : Below w.heap.size w W1 := by rw [← hW1]; exact (Below.refl _ _).alloc (Nat.le_refl _) _
  have hX := TBox.new (ts := ts) w (k := k) (b := b) (v := v) (sl := .slice A L c) hnb hmb
  rw [hW1] at hX
  obtain ⟨x0, x1, x2, x3, x4, x5⟩ := hX.cells hnb hmb
  have HB := Lib.hid (And.intro hb1 hX)
  subst hW1
  clear ih h hU hR hR0 hL hnb hmb hX hb1 hNd
  go_enter Tryd.func69, Tryd.ntmps69
  go_wp2_with fail
  (with_reducible refine (HNd.out _ HB.out.1).mono ?_)
  rintro e w2 ⟨rfl, hb2⟩
  have HB2 := Lib.hid (HB.out.1.trans (hb2.mono HB.out.1.size))
  obtain ⟨y0, y1, y2, y3, y4, y5⟩ := (HB.out.2.below hb2).cells HM.out.1 HM.out.2
  clear hb2 x0 x1 x2 x3 x4 x5
  by_cases h0 : R0 = 0
  · subst h0
    have HRs := Lib.hid (HR.out.2 rfl)
    go_upto_region 5 with fail
    clear y0 y1 y2 y3 y4 y5
    go_loopw [15] (fun v15 wr => ∃ i : Nat, v15 = .int .i64 (i : Int) ∧ i ≤ L ∧ Hid (errss Lib.validD canonB floB (ts.drop i) = R ∧ Below w.heap.size w wr)) (fun v15 _ => ((L : Int) - intOf v15).toNat)
    case atStart => exact ⟨0, rfl, Nat.zero_le _, Lib.hid ⟨HRs.out, HB2.out⟩⟩
    case round =>
      obtain ⟨i, rfl, hi, HI⟩ := hrel
      by_cases hlt : i < L
      · have hltI : (i : Int) < (L : Int) := by omega
        have hi0 : (0 : Int) ≤ (i : Int) := by omega
        have hil : i < ts.length := by rw [HL.out]; exact hlt
        obtain ⟨a, ha⟩ : ∃ a, ts[i]? = some a := ⟨_, List.getElem?_eq_getElem hil⟩
        obtain ⟨g, o, rfl, hgB, helt⟩ := (HT.out.to HI.out.2 HI.out.2.size).arg ha
        have HD := Lib.hid (errss_drop ha HI.out.1)
        obtain ⟨A', c', k', n', m', b', v', ts', nb', mb', rfl, hnb', hmb', hta, e0, e1, e2, e3, e4, e5⟩ := EltAt.cells helt
        obtain ⟨q, hq⟩ : ∃ q, ts'.length = q := ⟨_, rfl⟩
        have HC := Lib.hid (HIH.out _ (List.mem_of_getElem? ha))
        have HN := Lib.hid (And.intro hnb' hmb')
        have HTA := Lib.hid hta
        have HLT := Lib.hid hlt
        have HQ := Lib.hid hq
        rw [hq] at e5
        clear helt hta hnb' hmb' ha hil hlt hi hq
        go_upto_region 7 with fail
        have HX2 := Lib.hid (TBox.new (ts := ts') wr (k := k') (b := b') (v := v') (sl := .slice A' q c') HN.out.1 HN.out.2)
        have hb3 : Below wr.heap.size wr (wr.alloc (.cells #[.int .i64 k', .string nb', .string mb', .int .u64 b', .int .i64 v', .slice A' q c'] 25)) := (Below.refl _ _).alloc (Nat.le_refl _) _
        have HB3 := Lib.hid (HI.out.2.trans (hb3.mono HI.out.2.size))
        have HCl := Lib.hid (HC.out _ _ (HTA.out.to hb3 hb3.size) (HU.out.below HB3.out))
        rw [valT_mk HN.out.1 HN.out.2, HQ.out] at HCl
        obtain ⟨R1, hR1⟩ : ∃ R1, errsP (.mk k' n' m' b' v' ts') = R1 := ⟨_, rfl⟩
        rw [hR1] at HCl HD
        clear hR1 hb3
        generalize wr.alloc (.cells #[.int .i64 k', .string nb', .string mb', .int .u64 b', .int .i64 v', .slice A' q c'] 25) = W2 at *
        generalize wr.heap.size = gB at *
        obtain ⟨y0, y1, y2, y3, y4, y5⟩ := HX2.out.cells HN.out.1 HN.out.2
        clear e0 e1 e2 e3 e4 e5
        by_cases h1 : R1 = 0
        · subst h1
          have HE := Lib.hid (HD.out.2 rfl)
          go_wp2_with (go_at_call 69; (with_reducible refine HCl.out.mono ?_); rintro e w' ⟨rfl, hb4⟩; have HB4 := Lib.hid (HB3.out.trans (hb4.mono HB3.out.size)); clear hb4)
          go_roundw
          case rel => exact ⟨i + 1, rfl, HLT.out, Lib.hid ⟨HE.out, HB4.out⟩⟩
          case measure =>
            have := HLT.out
            show ((L : Int) - ((i : Int) + 1)).toNat < ((L : Int) - (i : Int)).toNat
            omega
        · have h1b : (R1 != 0) = true := by simpa using h1
          have HE := Lib.hid (HD.out.1 h1)
          clear h1
          go_wp2_with (go_at_call 69; (with_reducible refine HCl.out.mono ?_); rintro e w' ⟨rfl, hb4⟩; have HB4 := Lib.hid (HB3.out.trans (hb4.mono HB3.out.size)); clear hb4)
          go_ret
          exact ⟨by rw [← HE.out]; rfl, HB4.out⟩
      · have ei : i = L := by omega
        subst ei
        have HE := Lib.hid (show (0 : Int) = R ∧ Below w.heap.size w wr from by
          have h9 := HI.out
          rw [List.drop_of_length_le (by rw [HL.out]; exact Nat.le_refl _)] at h9
          exact h9)
        clear hlt hi
        go_wp2
        go_ret
        exact ⟨by rw [← HE.out.1]; rfl, HE.out.2⟩
  · have h0b : (R0 != 0) = true := by simpa using h0
    have HE := Lib.hid (HR.out.1 h0)
    clear h0
    go_wp2
    go_ret
    exact ⟨by rw [← HE.out]; rfl, HB2.out⟩
set_option maxRecDepth 100000 in
set_option maxHeartbeats 2000000 in
theorem Check_any {w0 w : World} {t : Tm} {sl : Value} (h : TAt w w.heap.size t sl) (hU : UOk w0 w) : Calls Tryd.prog 56 #[valT t sl] w fun e w' => e = .returned (.int .i64 (checkP t)) ∧ Below w.heap.size w w' := by
  obtain ⟨k, nl, ml, b, v, ts, nb, mb, A, c, rfl, rfl, hnb, hmb, hl1, hl2, hl3, hv, hs1, hs2⟩ := h.letters
  have hb1 : Below w.heap.size w (w.alloc (.cells #[.int .i64 k, .string nb, .string mb, .int .u64 b, .int .i64 v, .slice A ts.length c] 25)) := (Below.refl _ _).alloc (Nat.le_refl _) _
  have HC := Lib.hid (Nodes_any (h.to hb1 hb1.size))
  have HN := Lib.hid (fun w2 (hb : Below _ (w.alloc (.cells #[.int .i64 k, .string nb, .string mb, .int .u64 b, .int .i64 v, .slice A ts.length c] 25)) w2) => nodes_any w0 (.mk k nl ml b v ts) w2 (.slice A ts.length c) ((h.to hb1 hb1.size).to hb hb.size) ((hU.below hb1).below hb))
  rw [hv] at HC HN ⊢
  obtain ⟨n, hn⟩ : ∃ n, nodes (.mk k nl ml b v ts) = n := ⟨_, rfl⟩
  obtain ⟨E, hE⟩ : ∃ E, errsP (.mk k nl ml b v ts) = E := ⟨_, rfl⟩
  have hR : checkP (.mk k nl ml b v ts) = if 4000 < n then 24 else E := by rw [← hn, ← hE]; rfl
  have hnl : n ≤ 4001 := by rw [← hn]; unfold nodes; omega
  rw [hR]
  rw [hn] at HC
  rw [hE] at HN
  have hX := TBox.new (ts := ts) w (k := k) (b := b) (v := v) (sl := .slice A ts.length c) hnb hmb
  have HB := Lib.hid (And.intro hb1 hX)
  have HM := Lib.hid (And.intro hnb hmb)
  obtain ⟨x0, x1, x2, x3, x4, x5⟩ := hX.cells hnb hmb
  have hzI : (n : Int) ≤ 4001 := by omega
  clear h hv hR hX hn hE hU hb1
  by_cases hz : 4000 < n
  · have hzI : (4000 : Int) < (n : Int) := by omega
    rw [if_pos hz]
    clear hz
    go_enter Tryd.func56, Tryd.ntmps56
    go_wp2_with (go_at_call 61; (with_reducible refine HC.out.mono ?_); rintro e w' ⟨rfl, hb3⟩; have HB3 := Lib.hid (HB.out.1.trans (hb3.mono HB.out.1.size)); clear hb3)
    go_ret
    exact ⟨rfl, HB3.out⟩
  · have hzI : ¬ (4000 : Int) < (n : Int) := by omega
    rw [if_neg hz]
    clear hz
    go_enter Tryd.func56, Tryd.ntmps56
    go_wp2_with (first
      | (go_at_call 61; (with_reducible refine HC.out.mono ?_); rintro e w' ⟨rfl, hb3⟩; obtain ⟨y0, y1, y2, y3, y4, y5⟩ := (HB.out.2.below hb3).cells HM.out.1 HM.out.2; have HB3 := Lib.hid (And.intro (HB.out.1.trans (hb3.mono HB.out.1.size)) hb3); clear hb3)
      | (go_at_call 69; (with_reducible refine (HN.out _ HB3.out.2).mono ?_); rintro e w' ⟨rfl, hb4⟩; have HB4 := Lib.hid (HB3.out.1.trans (hb4.mono HB3.out.1.size)); clear hb4))
    go_ret
    exact ⟨rfl, HB4.out⟩
end Go.Proofs.YtgfeainpeplphaaDoor

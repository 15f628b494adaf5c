import Derived.Test.YtgfeainpeplphaaDoorRows
import Derived.WalkKit
import Derived.Deep.QuietTactic
import Derived.BigQuiet
import Derived.Deep.RegionHeld3
import Derived.Deep.DrawnRows
import Derived.Deep.DeepCutAuto
import Derived.Deep.CutBlock
import Derived.StillTailTactics
import Derived.Test.YtgfeainpeplphaaDoorHd
namespace Ht
theorem cnt_small (t : Tm) : ∀ n, n ≤ 4000 → cnt t n ≤ 4001 := by
  refine Tm.ind (p := fun t => ∀ n, n ≤ 4000 → cnt t n ≤ 4001) (fun k nm m b v ts ih n hn => ?_) t
  have key : ∀ ts : List Tm, (∀ a ∈ ts, ∀ n, n ≤ 4000 → cnt a n ≤ 4001) → ∀ n, n ≤ 4001 → cnts ts n ≤ 4001 := by
    intro ts
    induction ts with
    | nil => intro _ n hn; simpa [cnts] using hn
    | cons a ts ih =>
      intro h n hn
      simp only [cnts]
      split
      · exact hn
      · exact ih (fun x hx => h x (by simp [hx])) _ (h a (by simp) n (by omega))
  simp only [cnt]
  exact key ts ih _ (by omega)
end Ht
namespace Go.Proofs.YtgfeainpeplphaaDoor
open Go.RowKit Hb Ht
set_option linter.unusedVariables false
set_option linter.unusedSimpArgs false
/-! ### terms in blocks -/
def TBox (w : World) (g : Nat) (t : Tm) (sl : Value) : Prop := w.heap[g]? = some (.cells (cells6 t sl).toArray 25 (0, 0))
theorem TBox.lt {w : World} {g : Nat} {t : Tm} {sl : Value} (h : TBox w g t sl) : g < w.heap.size := (Array.getElem?_eq_some_iff.1 h).1
theorem TBox.below {w w' : World} {g : Nat} {t : Tm} {sl : Value} (h : TBox w g t sl) (hb : Below w.heap.size w w') : TBox w' g t sl := (hb.block g h.lt).trans h
theorem TBox.cells {w : World} {g : Nat} {k v b : Int} {n m : List UInt8} {ts : List Tm} {sl : Value} {nb mb : ByteArray} (h : TBox w g (.mk k n m b v ts) sl) (hn : (⟨n.toArray⟩ : ByteArray) = nb) (hm : (⟨m.toArray⟩ : ByteArray) = mb) :
    w.cell? ⟨g, 0, none⟩ = some (.int .i64 k) ∧ w.cell? ⟨g, 1, none⟩ = some (.string nb) ∧ w.cell? ⟨g, 2, none⟩ = some (.string mb) ∧ w.cell? ⟨g, 3, none⟩ = some (.int .u64 b) ∧ w.cell? ⟨g, 4, none⟩ = some (.int .i64 v) ∧ w.cell? ⟨g, 5, none⟩ = some sl := by
  subst hn hm
  refine ⟨?_, ?_, ?_, ?_, ?_, ?_⟩ <;> (rw [cell_of_row w g _ _ _ (0, 0) h]; rfl)
theorem TBox.new (w : World) {k v b : Int} {n m : List UInt8} {ts : List Tm} {sl : Value} {nb mb : ByteArray} (hn : (⟨n.toArray⟩ : ByteArray) = nb) (hm : (⟨m.toArray⟩ : ByteArray) = mb) :
    TBox (w.alloc (.cells #[.int .i64 k, .string nb, .string mb, .int .u64 b, .int .i64 v, sl] 25)) w.heap.size (.mk k n m b v ts) sl := by
  subst hn hm
  exact heap_alloc_new w _
theorem TBox.frozen {w : World} {g : Nat} {t : Tm} {sl : Value} (h : TBox w g t sl) (j : Nat) : w.frozen? ⟨g, j, none⟩ = false := by
  unfold TBox at h
  simp [World.frozen?, h]
theorem TBox.far {w : World} {g : Nat} {t : Tm} {sl : Value} (h : TBox w g t sl) {p : Addr} (hp : g ≠ p.block) (u : Value) : TBox (w.setCell p u) g t sl := (Below.heap_setCell w p u g hp).trans h
theorem TBox.args {w : World} {g : Nat} {t : Tm} {sl : Value} (h : TBox w g t sl) (u : Value) : TBox (w.setCell ⟨g, 5, none⟩ u) g t u := by
  unfold TBox at h ⊢
  simp [World.setCell, Array.getElem?_modify, h, cells6]
/-- a whole term is stored -/
theorem TBox.set6 {w : World} {g : Nat} {t0 : Tm} {sl0 : Value} (h : TBox w g t0 sl0) {k v b : Int} {n m : List UInt8} (ts : List Tm) (sl : Value) {nb mb : ByteArray} (hn : (⟨n.toArray⟩ : ByteArray) = nb) (hm : (⟨m.toArray⟩ : ByteArray) = mb) :
    TBox ((((((w.setCell ⟨g, 0, none⟩ (.int .i64 k)).setCell ⟨g, 1, none⟩ (.string nb)).setCell ⟨g, 2, none⟩ (.string mb)).setCell ⟨g, 3, none⟩ (.int .u64 b)).setCell ⟨g, 4, none⟩ (.int .i64 v)).setCell ⟨g, 5, none⟩ sl) g (.mk k n m b v ts) sl ∧
      w.grownBy ((((((w.setCell ⟨g, 0, none⟩ (.int .i64 k)).setCell ⟨g, 1, none⟩ (.string nb)).setCell ⟨g, 2, none⟩ (.string mb)).setCell ⟨g, 3, none⟩ (.int .u64 b)).setCell ⟨g, 4, none⟩ (.int .i64 v)).setCell ⟨g, 5, none⟩ sl) (some g) := by
  subst hn hm
  constructor
  · unfold TBox at h ⊢
    simp [World.setCell, Array.getElem?_modify, h, cells6, Tm.k, Tm.n, Tm.m, Tm.b, Tm.v]
  · exact gb_setCell (gb_setCell (gb_setCell (gb_setCell (gb_setCell (gb_setCell (gb_refl w (some g)) 0 _) 1 _) 2 _) 3 _) 4 _) 5 _
theorem TBox.frozens {w : World} {g : Nat} {t : Tm} {sl : Value} (h : TBox w g t sl) : w.frozen? ⟨g, 0, none⟩ = false ∧ w.frozen? ⟨g, 1, none⟩ = false ∧ w.frozen? ⟨g, 2, none⟩ = false ∧ w.frozen? ⟨g, 3, none⟩ = false ∧ w.frozen? ⟨g, 4, none⟩ = false ∧ w.frozen? ⟨g, 5, none⟩ = false :=
  ⟨h.frozen 0, h.frozen 1, h.frozen 2, h.frozen 3, h.frozen 4, h.frozen 5⟩
/-- an element's cells, its value -/
theorem EltAt.cells {w : World} {B g o : Nat} {a : Tm} (h : EltAt w B g o a) : ∃ A c k n m b v ts nb mb, a = .mk k n m b v ts ∧ (⟨n.toArray⟩ : ByteArray) = nb ∧ (⟨m.toArray⟩ : ByteArray) = mb ∧ TAt w B a (.slice A ts.length c) ∧
    w.cell? ⟨g, o, none⟩ = some (.int .i64 k) ∧ w.cell? ⟨g, o + 1, none⟩ = some (.string nb) ∧ w.cell? ⟨g, o + 2, none⟩ = some (.string mb) ∧ w.cell? ⟨g, o + 3, none⟩ = some (.int .u64 b) ∧ w.cell? ⟨g, o + 4, none⟩ = some (.int .i64 v) ∧ w.cell? ⟨g, o + 5, none⟩ = some (.slice A ts.length c) := by
  obtain ⟨sl, hc, ht⟩ := h
  obtain ⟨A, c, rfl, _⟩ := ht.slice
  obtain ⟨k, n, m, b, v, ts⟩ := a
  exact ⟨A, c, k, n, m, b, v, ts, _, _, rfl, rfl, rfl, ht, hc 0 (by omega), hc 1 (by omega), hc 2 (by omega), hc 3 (by omega), hc 4 (by omega), hc 5 (by omega)⟩
theorem valT_mk {k v b : Int} {n m : List UInt8} {ts : List Tm} {sl : Value} {nb mb : ByteArray} (hn : (⟨n.toArray⟩ : ByteArray) = nb) (hm : (⟨m.toArray⟩ : ByteArray) = mb) : valT (.mk k n m b v ts) sl = .agg #[.int .i64 k, .string nb, .string mb, .int .u64 b, .int .i64 v, sl] := by
  subst hn hm; rfl
/-! ### term.count -/
def CountOk (t : Tm) : Prop := ∀ (w : World) (sl : Value) (n : Nat), TAt w w.heap.size t sl → n ≤ 4000 → Calls Tryd.prog 73 #[valT t sl, .int .i64 (n : Int)] w fun e w' => e = .returned (.int .i64 (cnt t n : Nat)) ∧ Below w.heap.size w w'
set_option maxRecDepth 100000 in
set_option maxHeartbeats 4000000 in
theorem count_any (t : Tm) : CountOk t := by
  refine Tm.ind (p := CountOk) (fun k nl ml b v ts ih => ?_) t
  intro w sl n h hn
  obtain ⟨A, c, rfl, hl1, hl2, hl3⟩ := h.slice
  obtain ⟨nb, hnb⟩ : ∃ nb : ByteArray, (⟨nl.toArray⟩ : ByteArray) = nb := ⟨_, rfl⟩
  obtain ⟨mb, hmb⟩ : ∃ mb : ByteArray, (⟨ml.toArray⟩ : ByteArray) = mb := ⟨_, rfl⟩
  obtain ⟨L, hL⟩ : ∃ L, ts.length = L := ⟨_, rfl⟩
  change ts.length ≤ c at hl1
  change ts.length ≤ maxArgs at hl3
  change TAt w w.heap.size (.mk k nl ml b v ts) (.slice A ts.length c) at h
  change Calls Tryd.prog 73 #[valT _ (.slice A ts.length c), _] w _
  rw [valT_mk hnb hmb]
  rw [hL] at h hl1 hl3 ⊢
  obtain ⟨R, hR⟩ : ∃ R, cnt (.mk k nl ml b v ts) n = R := ⟨_, rfl⟩
  rw [hR]
  have hRs : cnts ts (n + 1) = R := by rw [← hR]; rfl
  have HIH := Lib.hid ih
  have HT := Lib.hid h
  have HL := Lib.hid (And.intro hL hRs)
  have hLI : (L : Int) ≤ 1759218604400 := by unfold maxArgs at hl3; omega
  have hX := TBox.new (ts := ts) w (k := k) (b := b) (v := v) (sl := .slice A L c) hnb hmb
  have hB := Lib.hid (show Below w.heap.size w (w.alloc (.cells #[.int .i64 k, .string nb, .string mb, .int .u64 b, .int .i64 v, .slice A L c] 25)) from (Below.refl _ _).alloc (Nat.le_refl _) _)
  obtain ⟨x0, x1, x2, x3, x4, x5⟩ := hX.cells hnb hmb
  clear ih h hR hRs hL hnb hmb hX
  go_enter Tryd.func73, Tryd.ntmps73
  go_upto_region 3 with fail
  obtain ⟨W1, hW1⟩ : ∃ W1, w.alloc (.cells #[.int .i64 k, .string nb, .string mb, .int .u64 b, .int .i64 v, .slice A L c] 25) = W1 := ⟨_, rfl⟩
  rw [hW1] at hB x0 x1 x2 x3 x4 x5 ⊢
  clear hW1 x0 x1 x2 x3 x4 x5
  go_loopw [1, 12] (fun v1 v12 wr => ∃ x i : Nat, v1 = .int .i64 (x : Int) ∧ v12 = .int .i64 (i : Int) ∧ i ≤ L ∧ x ≤ 4001 ∧ Hid (cnts (ts.drop i) x = R ∧ Below w.heap.size w wr)) (fun _ v12 _ => ((L : Int) - intOf v12).toNat)
  case atStart => exact ⟨n + 1, 0, rfl, rfl, Nat.zero_le _, by omega, Lib.hid ⟨HL.out.2, hB.out⟩⟩
  case round =>
    obtain ⟨x, i, rfl, rfl, hi, hx, HI⟩ := hrel
    by_cases hlt : i < L
    · have hltI : (i : Int) < (L : Int) := by omega
      have hi0 : (0 : Int) ≤ (i : Int) := by omega
      have hil : i < ts.length := by rw [HL.out.1]; exact hlt
      obtain ⟨a, ha⟩ : ∃ a, ts[i]? = some a := ⟨_, List.getElem?_eq_getElem hil⟩
      have hTr := (HT.out.to HI.out.2 HI.out.2.size)
      obtain ⟨g, o, rfl, hgB, helt⟩ := hTr.arg ha
      obtain ⟨A', c', k', n', m', b', v', ts', nb', mb', rfl, hnb', hmb', hta, e0, e1, e2, e3, e4, e5⟩ := EltAt.cells helt
      have hd : ts.drop i = .mk k' n' m' b' v' ts' :: ts.drop (i + 1) := by rw [List.drop_eq_getElem_cons hil, ← List.getElem?_eq_some_iff.1 ha |>.2]
      have HC := Lib.hid (HIH.out _ (List.mem_of_getElem? ha))
      have HN := Lib.hid (And.intro hnb' hmb')
      have HTA := Lib.hid hta
      have HLT := Lib.hid hlt
      have HD := Lib.hid hd
      have hg0 : (0 : Int) ≤ 0 := by omega
      clear hTr helt hta hnb' hmb' ha hil hlt hd hi
      obtain ⟨q, hq⟩ : ∃ q, ts'.length = q := ⟨_, rfl⟩
      have HQ := Lib.hid hq
      rw [hq] at e5
      clear hq
      go_upto_region 5 with fail
      have HX2 := Lib.hid (TBox.new (ts := ts') wr (k := k') (b := b') (v := v') (sl := .slice A' q c') HN.out.1 HN.out.2)
      have HB2 := Lib.hid (show Below w.heap.size w (wr.alloc (.cells #[.int .i64 k', .string nb', .string mb', .int .u64 b', .int .i64 v', .slice A' q c'] 25)) from HI.out.2.alloc HI.out.2.size _)
      have HT2 := Lib.hid (show TAt (wr.alloc (.cells #[.int .i64 k', .string nb', .string mb', .int .u64 b', .int .i64 v', .slice A' q c'] 25)) (wr.alloc (.cells #[.int .i64 k', .string nb', .string mb', .int .u64 b', .int .i64 v', .slice A' q c'] 25)).heap.size (.mk k' n' m' b' v' ts') (.slice A' q c') from by
        have h9 := HTA.out
        rw [HQ.out] at h9
        exact h9.to ((Below.refl _ _).alloc (Nat.le_refl _) _) (by simp))
      generalize wr.alloc (.cells #[.int .i64 k', .string nb', .string mb', .int .u64 b', .int .i64 v', .slice A' q c'] 25) = W2 at *
      generalize wr.heap.size = gB at *
      obtain ⟨y0, y1, y2, y3, y4, y5⟩ := HX2.out.cells HN.out.1 HN.out.2
      clear e0 e1 e2 e3 e4 e5
      by_cases hbig : 4000 < x
      · have hbI : (4000 : Int) < (x : Int) := by omega
        have HE := Lib.hid (show x = R from by
          have h9 := HI.out.1
          rw [HD.out, cnts, if_pos hbig] at h9
          exact h9)
        clear hbig y0 y1 y2 y3 y4 y5
        go_wp2
        go_ret
        exact ⟨by rw [HE.out]; rfl, HB2.out⟩
      · have hbI : ¬ (4000 : Int) < (x : Int) := by omega
        have HE := Lib.hid (show cnts (ts.drop (i + 1)) (cnt (.mk k' n' m' b' v' ts') x) = R from by
          have h9 := HI.out.1
          rw [HD.out, cnts, if_neg hbig] at h9
          exact h9)
        have HCl := Lib.hid (HC.out W2 (.slice A' q c') x HT2.out (by omega))
        rw [valT_mk HN.out.1 HN.out.2] at HCl
        have HSm := Lib.hid (cnt_small (.mk k' n' m' b' v' ts') x (by omega))
        generalize cnt (.mk k' n' m' b' v' ts') x = z at *
        clear hbig
        go_wp2_with (go_at_call 73; (with_reducible refine HCl.out.mono ?_); rintro e w' ⟨rfl, hb3⟩; have HB3 := Lib.hid (HB2.out.trans (hb3.mono HB2.out.size)); clear hb3)
        go_roundw
        case rel => exact ⟨z, i + 1, rfl, rfl, HLT.out, HSm.out, Lib.hid ⟨HE.out, HB3.out⟩⟩
        case measure =>
          have := HLT.out
          show ((L : Int) - ((i : Int) + 1)).toNat < ((L : Int) - (i : Int)).toNat
          omega
    · have ei : i = L := by omega
      subst ei
      have HE := Lib.hid (show x = R ∧ Below w.heap.size w wr from by
        have h9 := HI.out
        rw [List.drop_of_length_le (by rw [HL.out.1]; exact Nat.le_refl _)] at h9
        exact h9)
      clear hlt hi
      go_wp2
      go_ret
      exact ⟨by rw [HE.out.1]; rfl, HE.out.2⟩
/-! ### term.Nodes -/
set_option maxRecDepth 100000 in
set_option maxHeartbeats 4000000 in
theorem Nodes_any {w : World} {t : Tm} {sl : Value} (h : TAt w w.heap.size t sl) : Calls Tryd.prog 61 #[valT t sl] w fun e w' => e = .returned (.int .i64 (nodes t : Nat)) ∧ Below w.heap.size w w' := by
  obtain ⟨k, nl, ml, b, v, ts, nb, mb, A, c, rfl, rfl, hnb, hmb, hl1, hl2, hl3, hv, hs1, hs2⟩ := h.letters
  have hc := count_any (.mk k nl ml b v ts) (w.alloc (.cells #[.int .i64 k, .string nb, .string mb, .int .u64 b, .int .i64 v, .slice A ts.length c] 25)) (.slice A ts.length c) 0 (h.boxed _) (by omega)
  have hR : nodes (.mk k nl ml b v ts) = min (cnt (.mk k nl ml b v ts) 0) 4001 := rfl
  have hsm := cnt_small (.mk k nl ml b v ts) 0 (by omega)
  rw [hv, show ((0 : Nat) : Int) = 0 from rfl] at hc
  rw [hv, hR]
  generalize cnt (.mk k nl ml b v ts) 0 = z at *
  rw [show min z 4001 = z by omega]
  have HC := Lib.hid hc
  have hX := TBox.new (ts := ts) w (k := k) (b := b) (v := v) (sl := .slice A ts.length c) hnb hmb
  have HB := Lib.hid (show Below w.heap.size w (w.alloc (.cells #[.int .i64 k, .string nb, .string mb, .int .u64 b, .int .i64 v, .slice A ts.length c] 25)) from (Below.refl _ _).alloc (Nat.le_refl _) _)
  obtain ⟨x0, x1, x2, x3, x4, x5⟩ := hX.cells hnb hmb
  have hzI : (z : Int) ≤ 4001 := by omega
  clear hc h hv hR hX
  go_enter Tryd.func61, Tryd.ntmps61
  go_wp2_with (go_at_call 73; (with_reducible refine HC.out.mono ?_); rintro e w' ⟨rfl, hb3⟩; have HB3 := Lib.hid (HB.out.trans (hb3.mono HB.out.size)); clear hb3)
  go_ret
  exact ⟨rfl, HB3.out⟩
/-! ### the reference's count -/
def RCountOk (t : Tm) : Prop := ∀ (w : World) (sl : Value) (n : Nat), TAt w w.heap.size t sl → n ≤ 4000 → Calls Tryd.prog 64 #[valT t sl, .int .i64 (n : Int)] w fun e w' => e = .returned (.int .i64 (cnt t n : Nat)) ∧ Below w.heap.size w w'
set_option maxRecDepth 100000 in
set_option maxHeartbeats 4000000 in
theorem rcount_any (t : Tm) : RCountOk t := by
  refine Tm.ind (p := RCountOk) (fun k nl ml b v ts ih => ?_) t
  intro w sl n h hn
  obtain ⟨A, c, rfl, hl1, hl2, hl3⟩ := h.slice
  obtain ⟨nb, hnb⟩ : ∃ nb : ByteArray, (⟨nl.toArray⟩ : ByteArray) = nb := ⟨_, rfl⟩
  obtain ⟨mb, hmb⟩ : ∃ mb : ByteArray, (⟨ml.toArray⟩ : ByteArray) = mb := ⟨_, rfl⟩
  obtain ⟨L, hL⟩ : ∃ L, ts.length = L := ⟨_, rfl⟩
  change ts.length ≤ c at hl1
  change ts.length ≤ maxArgs at hl3
  change TAt w w.heap.size (.mk k nl ml b v ts) (.slice A ts.length c) at h
  change Calls Tryd.prog 64 #[valT _ (.slice A ts.length c), _] w _
  rw [valT_mk hnb hmb]
  rw [hL] at h hl1 hl3 ⊢
  obtain ⟨R, hR⟩ : ∃ R, cnt (.mk k nl ml b v ts) n = R := ⟨_, rfl⟩
  rw [hR]
  have hRs : cnts ts (n + 1) = R := by rw [← hR]; rfl
  have HIH := Lib.hid ih
  have HT := Lib.hid h
  have HL := Lib.hid (And.intro hL hRs)
  have hLI : (L : Int) ≤ 1759218604400 := by unfold maxArgs at hl3; omega
  have hX := TBox.new (ts := ts) w (k := k) (b := b) (v := v) (sl := .slice A L c) hnb hmb
  have hB := Lib.hid (show Below w.heap.size w (w.alloc (.cells #[.int .i64 k, .string nb, .string mb, .int .u64 b, .int .i64 v, .slice A L c] 25)) from (Below.refl _ _).alloc (Nat.le_refl _) _)
  obtain ⟨x0, x1, x2, x3, x4, x5⟩ := hX.cells hnb hmb
  have HX := Lib.hid hX
  have HM := Lib.hid (And.intro hnb hmb)
  clear ih h hR hRs hL hnb hmb hX
  go_enter Tryd.func64, Tryd.ntmps64
  go_upto_region 3 with fail
  obtain ⟨W1, hW1⟩ : ∃ W1, w.alloc (.cells #[.int .i64 k, .string nb, .string mb, .int .u64 b, .int .i64 v, .slice A L c] 25) = W1 := ⟨_, rfl⟩
  rw [hW1] at hB HX x0 x1 x2 x3 x4 x5 ⊢
  have HT1 := Lib.hid (HT.out.to hB.out hB.out.size)
  clear hW1 x0 x1 x2 x3 x4 x5
  go_loopw [1, 5] (fun v1 v5 wr => ∃ x i : Nat, v1 = .int .i64 (x : Int) ∧ v5 = .int .i64 (i : Int) ∧ i ≤ L ∧ x ≤ 4001 ∧ Hid (cnts (ts.drop i) x = R ∧ Below W1.heap.size W1 wr)) (fun _ v5 _ => ((L : Int) - intOf v5).toNat)
  case atStart => exact ⟨n + 1, 0, rfl, rfl, Nat.zero_le _, by omega, Lib.hid ⟨HL.out.2, Below.refl _ _⟩⟩
  case round =>
    obtain ⟨x, i, rfl, rfl, hi, hx, HI⟩ := hrel
    have hXr := HX.out.below HI.out.2
    obtain ⟨x0, x1, x2, x3, x4, x5⟩ := hXr.cells HM.out.1 HM.out.2
    clear hXr
    by_cases hlt : i < L
    · have hltI : (i : Int) < (L : Int) := by omega
      have hi0 : (0 : Int) ≤ (i : Int) := by omega
      have hil : i < ts.length := by rw [HL.out.1]; exact hlt
      obtain ⟨a, ha⟩ : ∃ a, ts[i]? = some a := ⟨_, List.getElem?_eq_getElem hil⟩
      have hTr := (HT1.out.to HI.out.2 HI.out.2.size)
      obtain ⟨g, o, rfl, hgB, helt⟩ := hTr.arg ha
      obtain ⟨A', c', k', n', m', b', v', ts', nb', mb', rfl, hnb', hmb', hta, e0, e1, e2, e3, e4, e5⟩ := EltAt.cells helt
      have hd : ts.drop i = .mk k' n' m' b' v' ts' :: ts.drop (i + 1) := by rw [List.drop_eq_getElem_cons hil, ← List.getElem?_eq_some_iff.1 ha |>.2]
      have HC := Lib.hid (HIH.out _ (List.mem_of_getElem? ha))
      have HN := Lib.hid (And.intro hnb' hmb')
      have HTA := Lib.hid hta
      have HLT := Lib.hid hlt
      have HD := Lib.hid hd
      clear hTr helt hta hnb' hmb' ha hil hlt hd hi
      by_cases hbig : 4000 < x
      · have hbI : ¬ (x : Int) ≤ 4000 := by omega
        have HE := Lib.hid (show x = R from by
          have h9 := HI.out.1
          rw [HD.out, cnts, if_pos hbig] at h9
          exact h9)
        have HB2 := Lib.hid HI.out.2
        clear hbig
        go_wp2
        go_ret
        exact ⟨by rw [HE.out]; rfl, hB.out.trans (HB2.out.mono hB.out.size)⟩
      · have hbI : (x : Int) ≤ 4000 := by omega
        have HE := Lib.hid (show cnts (ts.drop (i + 1)) (cnt (.mk k' n' m' b' v' ts') x) = R from by
          have h9 := HI.out.1
          rw [HD.out, cnts, if_neg hbig] at h9
          exact h9)
        have HCl := Lib.hid (HC.out wr (.slice A' ts'.length c') x HTA.out (by omega))
        rw [valT_mk HN.out.1 HN.out.2] at HCl
        have HSm := Lib.hid (cnt_small (.mk k' n' m' b' v' ts') x (by omega))
        have HB2 := Lib.hid HI.out.2
        generalize cnt (.mk k' n' m' b' v' ts') x = z at *
        clear hbig
        go_wp2_with (go_at_call 64; (with_reducible refine HCl.out.mono ?_); rintro e w' ⟨rfl, hb3⟩; have HB3 := Lib.hid (HB2.out.trans (hb3.mono HB2.out.size)); clear hb3)
        go_roundw
        case rel => exact ⟨z, i + 1, rfl, rfl, HLT.out, HSm.out, Lib.hid ⟨HE.out, HB3.out⟩⟩
        case measure =>
          have := HLT.out
          show ((L : Int) - ((i : Int) + 1)).toNat < ((L : Int) - (i : Int)).toNat
          omega
    · have ei : i = L := by omega
      subst ei
      have HE := Lib.hid (show x = R ∧ Below W1.heap.size W1 wr from by
        have h9 := HI.out
        rw [List.drop_of_length_le (by rw [HL.out.1]; exact Nat.le_refl _)] at h9
        exact h9)
      clear hlt hi
      go_wp2
      go_ret
      exact ⟨by rw [HE.out.1]; rfl, hB.out.trans (HE.out.2.mono hB.out.size)⟩
/-! ### the reference's Nodes -/
set_option maxRecDepth 100000 in
set_option maxHeartbeats 4000000 in
theorem rNodes_any {w : World} {t : Tm} {sl : Value} (h : TAt w w.heap.size t sl) : Calls Tryd.prog 40 #[valT t sl] w fun e w' => e = .returned (.int .i64 (nodes t : Nat)) ∧ Below w.heap.size w w' := by
  obtain ⟨k, nl, ml, b, v, ts, nb, mb, A, c, rfl, rfl, hnb, hmb, hl1, hl2, hl3, hv, hs1, hs2⟩ := h.letters
  have hc := rcount_any (.mk k nl ml b v ts) (w.alloc (.cells #[.int .i64 k, .string nb, .string mb, .int .u64 b, .int .i64 v, .slice A ts.length c] 25)) (.slice A ts.length c) 0 (h.boxed _) (by omega)
  have hR : nodes (.mk k nl ml b v ts) = min (cnt (.mk k nl ml b v ts) 0) 4001 := rfl
  have hsm := cnt_small (.mk k nl ml b v ts) 0 (by omega)
  rw [hv, show ((0 : Nat) : Int) = 0 from rfl] at hc
  rw [hv, hR]
  generalize cnt (.mk k nl ml b v ts) 0 = z at *
  rw [show min z 4001 = z by omega]
  have HC := Lib.hid hc
  have hX := TBox.new (ts := ts) w (k := k) (b := b) (v := v) (sl := .slice A ts.length c) hnb hmb
  have HB := Lib.hid (show Below w.heap.size w (w.alloc (.cells #[.int .i64 k, .string nb, .string mb, .int .u64 b, .int .i64 v, .slice A ts.length c] 25)) from (Below.refl _ _).alloc (Nat.le_refl _) _)
  obtain ⟨x0, x1, x2, x3, x4, x5⟩ := hX.cells hnb hmb
  have hzI : (z : Int) ≤ 4001 := by omega
  clear hc h hv hR hX
  go_enter Tryd.func40, Tryd.ntmps40
  go_upto_region 2 with (go_at_call 64; (with_reducible refine HC.out.mono ?_); rintro e w' ⟨rfl, hb3⟩; have HB3 := Lib.hid (HB.out.trans (hb3.mono HB.out.size)); clear hb3)
  by_cases hz : 4000 < z
  · have hz1 : z = 4001 := by omega
    subst hz1
    go_wp2
    go_ret
    exact ⟨rfl, HB3.out⟩
  · have hzI : ¬ (4000 : Int) < (z : Int) := by omega
    go_wp2
    go_ret
    exact ⟨rfl, HB3.out⟩
end Go.Proofs.YtgfeainpeplphaaDoor

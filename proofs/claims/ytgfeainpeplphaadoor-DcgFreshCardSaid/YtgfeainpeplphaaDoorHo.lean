import Derived.Test.YtgfeainpeplphaaDoorHn
namespace Go.Proofs.YtgfeainpeplphaaDoor
open Go.RowKit Hb Ht
set_option linter.unusedVariables false
set_option linter.unusedSimpArgs false
attribute [local go_sem] Oper.semAt_some
/-! ### the law's spoil -/
structure Wrote (lo hi : Nat) (w w' : World) : Prop where
  os : w'.os = w.os
  tape : w'.tape = w.tape
  output : w'.output = w.output
  size : w.heap.size ≤ w'.heap.size
  block : ∀ b, b < w.heap.size → (b < lo ∨ hi ≤ b) → w'.heap[b]? = w.heap[b]?
theorem Wrote.refl (lo hi : Nat) (w : World) : Wrote lo hi w w := ⟨rfl, rfl, rfl, Nat.le_refl _, fun _ _ _ => rfl⟩
theorem Wrote.trans {lo hi : Nat} {a b c : World} (h : Wrote lo hi a b) (k : Wrote lo hi b c) : Wrote lo hi a c :=
  ⟨k.os.trans h.os, k.tape.trans h.tape, k.output.trans h.output, Nat.le_trans h.size k.size, fun i hi2 ho => (k.block i (Nat.lt_of_lt_of_le hi2 h.size) ho).trans (h.block i hi2 ho)⟩
theorem Wrote.wide {lo hi lo' hi' : Nat} {a b : World} (h : Wrote lo hi a b) (h1 : lo' ≤ lo) (h2 : hi ≤ hi') : Wrote lo' hi' a b := ⟨h.os, h.tape, h.output, h.size, fun i hi ho => h.block i hi (by omega)⟩
theorem Wrote.new {lo hi : Nat} {a b : World} (h : Below a.heap.size a b) : Wrote lo hi a b := ⟨h.os, h.tape, h.output, h.size, fun i hi _ => h.block i hi⟩
theorem Wrote.cell {lo hi : Nat} (w : World) {p : Addr} (h1 : lo ≤ p.block) (h2 : p.block < hi) (u : Value) : Wrote lo hi w (w.setCell p u) := ⟨rfl, rfl, rfl, by simp [World.setCell], fun b _ ho => Below.heap_setCell _ _ _ b (by omega)⟩
theorem Wrote.below {lo hi : Nat} {a b : World} (h : Wrote lo hi a b) (hlo : lo ≤ a.heap.size) : Below lo a b := ⟨h.os, h.tape, h.output, h.size, fun k hk => h.block k (by omega) (.inl hk)⟩
theorem cell_setCell_ne (w : World) {g i j : Nat} (u : Value) (h : i ≠ j) : (w.setCell ⟨g, i, none⟩ u).cell? ⟨g, j, none⟩ = w.cell? ⟨g, j, none⟩ := World.cell?_setCell_other _ _ _ _ (by simp [Ne.symm h])
theorem set_rowT {W : World} {b : Nat} {cs : Array Value} {t : TypeId} {q : Nat × Nat} (h : W.heap[b]? = some (.cells cs t q)) (i : Nat) (v : Value) : (W.setCell ⟨b, i, none⟩ v).heap[b]? = some (.cells (cs.setIfInBounds i v) t q) := by
  simp [World.setCell, Array.getElem?_modify, h]
def SpoilOk (t : Tm) : Prop := ∀ (w : World) (sl : Value) (lo hi : Nat), TOwn w t sl lo hi → hi ≤ w.heap.size → Calls Tryd.prog 15 #[valT t sl] w fun e w' => e = .returned (.tuple #[]) ∧ Wrote lo hi w w'
set_option maxRecDepth 100000 in
set_option maxHeartbeats 8000000 in
theorem spoil_any (t : Tm) : SpoilOk t := by
  refine Tm.ind (p := SpoilOk) (fun k nl ml b v ts ih => ?_) t
  intro w sl lo hi h hhi
  obtain ⟨hok, hl3, hlh, A, c, rfl, hl1, hl2, hs⟩ := TOwn.iff.1 h
  obtain ⟨nb, hnb⟩ : ∃ nb : ByteArray, (⟨nl.toArray⟩ : ByteArray) = nb := ⟨_, rfl⟩
  obtain ⟨mb, hmb⟩ : ∃ mb : ByteArray, (⟨ml.toArray⟩ : ByteArray) = mb := ⟨_, rfl⟩
  obtain ⟨L, hL⟩ : ∃ L, ts.length = L := ⟨_, rfl⟩
  change ts.length ≤ c at hl1
  change ts.length ≤ maxArgs at hl3
  change ts ≠ [] → ∃ g, A = some ⟨g, 0, none⟩ ∧ lo ≤ g ∧ g < hi ∧ (∃ cs, w.heap[g]? = some (.cells cs 25 (0, 0))) ∧ TsOwn w g ts 0 (g + 1) hi at hs
  change Calls Tryd.prog 15 #[valT _ (.slice A ts.length c)] w _
  rw [valT_mk hnb hmb]
  rw [hL] at hl1 hl3 ⊢
  have HIH := Lib.hid ih
  have HL := Lib.hid hL
  have HM := Lib.hid (And.intro hnb hmb)
  have hLI : (L : Int) ≤ 1759218604400 := by unfold maxArgs at hl3; omega
  obtain ⟨W1, hW1⟩ : ∃ W1, w.alloc (.cells #[.int .i64 k, .string nb, .string mb, .int .u64 b, .int .i64 v, .slice A L c] 25) = W1 := ⟨_, rfl⟩
  have hb1 : Below w.heap.size w W1 := by rw [← hW1]; exact (Below.refl _ _).alloc (Nat.le_refl _) _
  have hX : TBox W1 w.heap.size (.mk k nl ml b v ts) (.slice A L c) := by rw [← hW1]; exact TBox.new w hnb hmb
  have HI0 := Lib.hid (show Wrote lo hi w W1 ∧ TBox W1 w.heap.size (.mk k nl ml b v ts) (.slice A L c) ∧ (0 < L → ∃ g lo2, A = some ⟨g, 0, none⟩ ∧ lo ≤ g ∧ g < lo2 ∧ g < hi ∧ (∃ cs, W1.heap[g]? = some (.cells cs 25 (0, 0))) ∧ TsOwn W1 g (ts.drop 0) 0 lo2 hi) from
    ⟨Wrote.new hb1, hX, fun hn => by
      obtain ⟨g, e, h1, h2, ⟨cs, hcs⟩, h3⟩ := hs (by rintro rfl; simp at hL; omega)
      exact ⟨g, g + 1, e, h1, by omega, h2, ⟨cs, (hb1.block g (by omega)).trans hcs⟩, h3.keep (fun b _ hb2 => hb1.block b (by omega)) (fun j _ _ => hb1.cell (p := ⟨g, j, none⟩) (by show g < _; omega))⟩⟩)
  have HH := Lib.hid hhi
  have HW := Lib.hid hW1
  clear ih h hs hL hnb hmb hok hl3 hb1 hX hhi hW1
  go_enter Tryd.func15, Tryd.ntmps15
  go_upto_region 2 with fail
  rw [HW.out]
  clear HW
  obtain ⟨G, hG⟩ : ∃ G, w.heap.size = G := ⟨_, rfl⟩
  have HG := Lib.hid hG
  rw [hG] at HI0 ⊢
  clear hG
  go_loopw [2] (fun v2 wr => ∃ i : Nat, v2 = .int .i64 (i : Nat) ∧ i ≤ L ∧ Hid (Wrote lo hi w wr ∧ TBox wr G (.mk k nl ml b v ts) (.slice A L c) ∧ (i < L → ∃ g lo2, A = some ⟨g, 0, none⟩ ∧ lo ≤ g ∧ g < lo2 ∧ g < hi ∧ (∃ cs, wr.heap[g]? = some (.cells cs 25 (0, 0))) ∧ TsOwn wr g (ts.drop i) i lo2 hi))) (fun v2 _ => ((L : Int) - intOf v2).toNat)
  case atStart => exact ⟨0, rfl, Nat.zero_le _, HI0⟩
  case round =>
    obtain ⟨i, rfl, hi', HI⟩ := hrel
    obtain ⟨x0, x1, x2, x3, x4, x5⟩ := HI.out.2.1.cells HM.out.1 HM.out.2
    by_cases hlt : i < L
    · have hltI : (i : Int) < (L : Int) := by omega
      have hi0 : (0 : Int) ≤ (i : Int) := by omega
      have hil : i < ts.length := by rw [HL.out]; exact hlt
      obtain ⟨g, lo2, rfl, hg1, hg2, hg3, ⟨cs, hcs⟩, hts⟩ := HI.out.2.2 hlt
      obtain ⟨a, ha⟩ : ∃ a, ts[i]? = some a := ⟨_, List.getElem?_eq_getElem hil⟩
      have hd : ts.drop i = a :: ts.drop (i + 1) := by rw [List.drop_eq_getElem_cons hil, ← List.getElem?_eq_some_iff.1 ha |>.2]
      rw [hd] at hts
      obtain ⟨sa, mid, m1, m2, m3, m4, m5⟩ := hts
      have hle5 := m5.le
      have HC0 := HIH.out a (List.mem_of_getElem? ha) wr sa lo2 mid m4 (by have := HI.out.1.size; have := HH.out; omega)
      obtain ⟨k', n', m', b', v', ts', nb', mb', A', c', rfl, rfl, hnb', hmb', _, _, _, hva, _, _⟩ := (TOwn.atP _ m4).letters
      rw [hva] at HC0
      have e0 := m3 0 (by omega)
      have e1 := m3 1 (by omega)
      have e2 := m3 2 (by omega)
      have e3 := m3 3 (by omega)
      have e4 := m3 4 (by omega)
      have e5 := m3 5 (by omega)
      simp only [cells6, Tm.k, Tm.n, Tm.m, Tm.b, Tm.v, List.getElem?_cons_zero, List.getElem?_cons_succ, hnb', hmb', Nat.add_zero] at e0 e1 e2 e3 e4 e5
      have HCl := Lib.hid HC0
      have HF := Lib.hid (And.intro hg1 (And.intro hg2 (And.intro hg3 (And.intro m1 (And.intro m2 (And.intro m5 hle5))))))
      have HCs := Lib.hid hcs
      have HLT := Lib.hid hlt
      clear hg1 hg2 hg3 m1 m2 m3 m4 m5 hle5 hd ha hil hlt hi' hcs hnb' hmb' hva HC0
      go_upto_region 5 with (go_at_call 15; (with_reducible refine HCl.out.mono ?_); rintro e w2 ⟨rfl, hw2⟩; have HW2 := Lib.hid hw2; clear hw2)
      obtain ⟨f1, f2, f3, f4, f5, f6, f7⟩ := HF.out
      have hGs : w.heap.size = G := HG.out
      have hGl : G < wr.heap.size := HI.out.2.1.lt
      have hhg := HH.out
      have hX2 : TBox w2 G (.mk k nl ml b v ts) (.slice (some ⟨g, 0, none⟩) L c) := (HW2.out.block G hGl (.inr (by omega))).trans HI.out.2.1
      have hcs2 : w2.heap[g]? = some (.cells cs 25 (0, 0)) := (HW2.out.block g (by omega) (.inl f2)).trans HCs.out
      have hgg : w2.heap[g]? = wr.heap[g]? := HW2.out.block g (by omega) (.inl f2)
      obtain ⟨_, _, _, _, _, y5⟩ := hX2.cells HM.out.1 HM.out.2
      have q0 := (World.cell?_of_block (a := ⟨g, i * 6, none⟩) hgg).trans e0
      have q1 := (World.cell?_of_block (a := ⟨g, i * 6 + 1, none⟩) hgg).trans e1
      have q2 := (World.cell?_of_block (a := ⟨g, i * 6 + 2, none⟩) hgg).trans e2
      have q3 := (World.cell?_of_block (a := ⟨g, i * 6 + 3, none⟩) hgg).trans e3
      have q4 := (World.cell?_of_block (a := ⟨g, i * 6 + 4, none⟩) hgg).trans e4
      have q5 := (World.cell?_of_block (a := ⟨g, i * 6 + 5, none⟩) hgg).trans e5
      have z0 : w2.frozen? ⟨g, i * 6, none⟩ = false := by simp [World.frozen?, hcs2]
      have z1 : w2.frozen? ⟨g, i * 6 + 1, none⟩ = false := by simp [World.frozen?, hcs2]
      have z2 : w2.frozen? ⟨g, i * 6 + 2, none⟩ = false := by simp [World.frozen?, hcs2]
      have z3 : w2.frozen? ⟨g, i * 6 + 3, none⟩ = false := by simp [World.frozen?, hcs2]
      have z4 : w2.frozen? ⟨g, i * 6 + 4, none⟩ = false := by simp [World.frozen?, hcs2]
      have z5 : w2.frozen? ⟨g, i * 6 + 5, none⟩ = false := by simp [World.frozen?, hcs2]
      have HE := Lib.hid (show ∀ w3, ((((((w2.setCell ⟨g, i * 6, none⟩ (.int .i64 9)).setCell ⟨g, i * 6 + 1, none⟩ (.string ⟨#[]⟩)).setCell ⟨g, i * 6 + 2, none⟩ (.string ⟨#[]⟩)).setCell ⟨g, i * 6 + 3, none⟩ (.int .u64 0)).setCell ⟨g, i * 6 + 4, none⟩ (.int .i64 0)).setCell ⟨g, i * 6 + 5, none⟩ (.slice none 0 0)) = w3 → Wrote lo hi w w3 ∧ TBox w3 G (.mk k nl ml b v ts) (.slice (some ⟨g, 0, none⟩) L c) ∧ (i + 1 < L → ∃ g' lo3, (some ⟨g, 0, none⟩ : Option Addr) = some ⟨g', 0, none⟩ ∧ lo ≤ g' ∧ g' < lo3 ∧ g' < hi ∧ (∃ cs, w3.heap[g']? = some (.cells cs 25 (0, 0))) ∧ TsOwn w3 g' (ts.drop (i + 1)) (i + 1) lo3 hi) from by
        intro w3 hw3
        have hwr : Wrote lo hi w2 w3 := by
          rw [← hw3]
          exact (((((Wrote.cell _ f1 f3 _).trans (Wrote.cell _ f1 f3 _)).trans (Wrote.cell _ f1 f3 _)).trans (Wrote.cell _ f1 f3 _)).trans (Wrote.cell _ f1 f3 _)).trans (Wrote.cell _ f1 f3 _)
        have hfar : ∀ b, b ≠ g → w3.heap[b]? = w2.heap[b]? := by
          intro b hb
          rw [← hw3]
          rw [Below.heap_setCell _ _ _ b hb, Below.heap_setCell _ _ _ b hb, Below.heap_setCell _ _ _ b hb, Below.heap_setCell _ _ _ b hb, Below.heap_setCell _ _ _ b hb, Below.heap_setCell _ _ _ b hb]
        have hcell : ∀ j, (i + 1) * 6 ≤ j → w3.cell? ⟨g, j, none⟩ = w2.cell? ⟨g, j, none⟩ := by
          intro j hj
          rw [← hw3]
          rw [cell_setCell_ne _ _ (by omega), cell_setCell_ne _ _ (by omega), cell_setCell_ne _ _ (by omega), cell_setCell_ne _ _ (by omega), cell_setCell_ne _ _ (by omega), cell_setCell_ne _ _ (by omega)]
        refine ⟨(HI.out.1.trans (HW2.out.wide (by omega) (by omega))).trans hwr, (hfar G (by omega)).trans hX2, fun _ => ⟨g, mid, rfl, f1, by omega, f3, ?_, ?_⟩⟩
        · rw [← hw3]
          exact ⟨_, set_rowT (set_rowT (set_rowT (set_rowT (set_rowT (set_rowT hcs2 _ _) _ _) _ _) _ _) _ _) _ _⟩
        · exact f6.keep (fun b h1 h2 => (hfar b (by omega)).trans (HW2.out.block b (by have := HI.out.1.size; omega) (.inr h1))) (fun j hj _ => (hcell j hj).trans (World.cell?_of_block (a := ⟨g, j, none⟩) hgg)))
      clear f1 f2 f3 f4 f5 f6 f7 hGs hGl hhg hX2 hcs2 hgg e0 e1 e2 e3 e4 e5 x0 x1 x2 x3 x4 x5
      go_wp2
      go_roundw
      case rel => exact ⟨i + 1, rfl, HLT.out, Lib.hid (HE.out _ rfl)⟩
      case measure =>
        have := HLT.out
        show ((L : Int) - ((i : Int) + 1)).toNat < ((L : Int) - (i : Int)).toNat
        omega
    · have ei : i = L := by omega
      subst ei
      have HE := Lib.hid HI.out.1
      clear hlt hi'
      go_wp2
      first
        | (go_ret; exact ⟨rfl, HE.out⟩)
        | exact bodyPost_ret (results_none rfl _ _ _) rfl ⟨rfl, HE.out⟩
        | exact bodyPost_end (results_none rfl _ _ _) rfl ⟨rfl, HE.out⟩
end Go.Proofs.YtgfeainpeplphaaDoor

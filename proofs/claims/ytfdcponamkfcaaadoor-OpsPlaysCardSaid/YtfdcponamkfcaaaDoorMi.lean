import Derived.Test.YtfdcponamkfcaaaDoorMh
import Derived.Test.YtfdcponamkfcaaaDoorReg
namespace Go.Proofs.YtfdcponamkfcaaaDoor
open Go.RowKit Ho Go.Maps Go.Shelf Go.Sort Hb
set_option linter.unusedVariables false
set_option linter.unusedSimpArgs false
attribute [local go_sem] Oper.semAt_some
/-! ### OpsPlays -/
def three {α : Type} (a b c : α) (k : Nat) : α := if k = 0 then a else if k = 1 then b else c
theorem three_all {α : Type} {p : Nat → α → Prop} {a b c : α} (h0 : p 0 a) (h1 : p 1 b) (h2 : p 2 c) : ∀ k, k < 3 → p k (three a b c k) := fun k hk => by
  have h3 : k = 0 ∨ k = 1 ∨ k = 2 := by omega
  rcases h3 with rfl | rfl | rfl
  · exact h0
  · exact h1
  · exact h2
theorem PlI.start {w W : World} {gO gR N g0 g1 g2 h0 h1 h2 : Nat} {l : List OpV}
    (ho : W.heap[gO]? = some (.cells #[.pointer (some ⟨g0, 0, none⟩), .pointer (some ⟨g1, 0, none⟩), .pointer (some ⟨g2, 0, none⟩)] 31 (0, 0)))
    (hr : W.heap[gR]? = some (.cells #[.pointer (some ⟨h0, 0, none⟩), .pointer (some ⟨h1, 0, none⟩), .pointer (some ⟨h2, 0, none⟩)] 48 (0, 0)))
    (t0 : TabAt W g0 (g0 + 1) (g0 + 2) (g0 + 3) N l) (t1 : TabAt W g1 (g1 + 1) (g1 + 2) (g1 + 3) N l) (t2 : TabAt W g2 (g2 + 1) (g2 + 2) (g2 + 3) N l)
    (r0 : RTab W h0 l) (r1 : RTab W h1 l) (r2 : RTab W h2 l) (ha : g0 + 3 < g1 ∧ g1 + 3 < g2) (hb : h0 < h1 ∧ h1 < h2) (hc : w.heap.size ≤ g0 ∧ w.heap.size ≤ h0) (hl : w.heap.size ≤ gO ∧ w.heap.size ≤ gR) (hw : Below w.heap.size w W) :
    PlI w gO gR N (three g0 g1 g2) (three h0 h1 h2) (fun _ => l) (fun _ => l) W where
  o := ho
  r := hr
  tab := three_all (p := fun k x => TabAt W x (x + 1) (x + 2) (x + 3) N l) t0 t1 t2
  rt := three_all (p := fun k x => RTab W x l) r0 r1 r2
  apart j k hj hk hjk := by
    unfold three
    split <;> split <;> (try split) <;> (try split) <;> omega
  rapart j k hj hk hjk := by
    unfold three
    split <;> split <;> (try split) <;> (try split) <;> omega
  ge := fun k hk => ⟨three_all (p := fun k x => w.heap.size ≤ x) hc.1 (by omega) (by omega) k hk, three_all (p := fun k x => w.heap.size ≤ x) hc.2 (by omega) (by omega) k hk⟩
  lo := hl
  bel := hw
def callCells (k o p t n : Int) (s : ByteArray) : Array Value := #[.int .i64 k, .int .i64 o, .int .i64 p, .int .i64 t, .int .i64 n, .string s]
structure CBox (W : World) (b : Nat) (k o p t n : Int) (s : ByteArray) : Prop where
  at_ : W.heap[b]? = some (.cells (callCells k o p t n s) 52 (0, 0))
theorem CBox.lt {W : World} {b : Nat} {k o p t n : Int} {s : ByteArray} (h : CBox W b k o p t n s) : b < W.heap.size := (Array.getElem?_eq_some_iff.1 h.at_).1
theorem CBox.below {W W' : World} {b : Nat} {k o p t n : Int} {s : ByteArray} (h : CBox W b k o p t n s) (hb : Below W.heap.size W W') : CBox W' b k o p t n s := ⟨(hb.block b h.lt).trans h.at_⟩
theorem CBox.cells {W : World} {b : Nat} {k o p t n : Int} {s : ByteArray} (h : CBox W b k o p t n s) : W.cell? ⟨b, 0, none⟩ = some (.int .i64 k) ∧ W.cell? ⟨b, 1, none⟩ = some (.int .i64 o) ∧ W.cell? ⟨b, 2, none⟩ = some (.int .i64 p) ∧ W.cell? ⟨b, 3, none⟩ = some (.int .i64 t) ∧ W.cell? ⟨b, 4, none⟩ = some (.int .i64 n) ∧ W.cell? ⟨b, 5, none⟩ = some (.string s) := by
  refine ⟨?_, ?_, ?_, ?_, ?_, ?_⟩ <;> (rw [cell_of_row W b _ _ _ (0, 0) h.at_]; rfl)
theorem tC_R : 52 ≠ 77 := by decide
theorem tC_PO : 52 ≠ 31 := by decide
theorem tC_PR : 52 ≠ 48 := by decide
section
variable {w W W' : World} {gO gR gC N : Nat} {g h : Nat → Nat} {L M : Nat → List OpV} {kd on p t nn : Int} {nm : ByteArray} {k : Nat}
theorem PlI.five (H : PlI w gO gR N g h L M W) (hk : k < 3) (hC : CBox W gC kd on p t nn nm) :
    (W.cell? ⟨gO, k, none⟩ = some (.pointer (some ⟨g k, 0, none⟩)) ∧ W.cell? ⟨gR, k, none⟩ = some (.pointer (some ⟨h k, 0, none⟩))) ∧ W.cell? ⟨gC, 2, none⟩ = some (.int .i64 p) ∧ W.cell? ⟨gC, 3, none⟩ = some (.int .i64 t) ∧ W.cell? ⟨gC, 4, none⟩ = some (.int .i64 nn) ∧ W.cell? ⟨gC, 5, none⟩ = some (.string nm) :=
  ⟨⟨H.cellO hk, H.cellR hk⟩, hC.cells.2.2.1, hC.cells.2.2.2.1, hC.cells.2.2.2.2.1, hC.cells.2.2.2.2.2⟩
theorem PlI.addC {l : List OpV} {co : Int} {e : Ending} (H : PlI w gO gR N g h L M W) (hk : k < 3) (hC : CBox W gC kd on p t nn nm) (hA : AddPost W (g k) (g k + 1) (g k + 2) (g k + 3) N (L k) l co e W') :
    e = .returned (.int .i64 co) ∧ PlI w gO gR (N + 1) g h (upd L k l) M W' ∧ CBox W' gC kd on p t nn nm :=
  ⟨hA.1, H.add hk hA, ⟨hA.cells (H.tab k hk) hC.at_⟩⟩
theorem PlI.raddC {l : List OpV} {co : Int} {e : Ending} (H : PlI w gO gR N g h L M W) (hk : k < 3) (hC : CBox W gC kd on p t nn nm) (hA : rAddPost W (h k) l co e W') :
    e = .returned (.int .i64 co) ∧ PlI w gO gR N g h L (upd M k l) W' ∧ CBox W' gC kd on p t nn nm := by
  obtain ⟨v, hbx⟩ := H.box hk
  have hbx' : W.heap[h k]? = some (.cells #[v] 77 (0, 0)) := hbx
  exact ⟨hA.1, H.radd hk hA, ⟨(hA.2.2.block gC hC.lt (fun e => cells_apart hC.at_ hbx' tC_R (Option.some.inj e))).trans hC.at_⟩⟩
theorem PlI.frozenO (H : PlI w gO gR N g h L M W) (j : Nat) : W.frozen? ⟨gO, j, none⟩ = false := by simp [World.frozen?, H.o]
theorem PlI.frozenR (H : PlI w gO gR N g h L M W) (j : Nat) : W.frozen? ⟨gR, j, none⟩ = false := by simp [World.frozen?, H.r]
theorem CBox.storeO (hC : CBox W gC kd on p t nn nm) (H : PlI w gO gR N g h L M W) (j : Nat) (v : Value) : CBox (W.setCell ⟨gO, j, none⟩ v) gC kd on p t nn nm :=
  ⟨(Below.heap_setCell _ _ _ gC (cells_apart hC.at_ H.o tC_PO)).trans hC.at_⟩
theorem PlI.lt (H : PlI w gO gR N g h L M W) {j : Nat} (hj : j < 3) : g j + 3 < W.heap.size ∧ h j < W.heap.size := by
  obtain ⟨_, _, _, m3, _⟩ := H.tab j hj
  exact ⟨m3.lt, (H.rt j hj).lt⟩
end
set_option maxRecDepth 100000 in
set_option maxHeartbeats 16000000 in
theorem Plays_walk {w : World} (hT : Tab w) (h2 : 2 ≤ w.heap.size) {A : Option Addr} {n c : Nat} {ls : List CallV} (hA : ArgC w w.heap.size A n c ls) (hn : n ≤ 4398046511000) :
    Calls Tryd.prog 7 #[.slice A n c] w (AwakePost w) := by
  have HB0 := Lib.hid (Below.refl w.heap.size w)
  have HT := Lib.hid (fun w1 (hb : Below w.heap.size w w1) => And.intro (hT.below hb h2) (Nat.le_trans h2 hb.size))
  have HA := Lib.hid (fun w1 (hb : Below w.heap.size w w1) => hA.below hb)
  have HN0 := Lib.hid rows_len
  have hnI : (n : Int) ≤ 4398046511000 := by omega
  have hcI := hA.cap
  clear hT h2 hA
  go_enter Tryd.func7, Tryd.ntmps7
  go_wp2_with fail
  (with_reducible refine (awake_any (HT.out _ HB0.out).1 (HT.out _ HB0.out).2).mono ?_)
  rintro ex w1 ⟨rfl, hb1⟩
  have HB1 := Lib.hid hb1
  clear hb1
  go_wp2_with fail
  (with_reducible refine (New_any (HT.out _ HB1.out).1 (HT.out _ HB1.out).2).mono ?_)
  rintro ex w2 ⟨rfl, ht2, hb2⟩
  have HT2 := Lib.hid ht2.r0
  have HB2 := Lib.hid (HB1.out.trans (hb2.mono HB1.out.size))
  have HS1 := Lib.hid HB1.out.size
  have HS2 := Lib.hid (show w1.heap.size + 3 < w2.heap.size from by obtain ⟨_, _, _, m3, _⟩ := ht2; exact m3.lt)
  clear ht2 hb2
  generalize w1.heap.size = g0 at *
  go_wp2_with fail
  (with_reducible refine (Copy_any clone_ok HT2.out).mono ?_)
  rintro ex w3 ⟨rfl, ht3, hb3⟩
  have HT3 := Lib.hid (And.intro (HT2.out.below' hb3) ht3)
  have HB3 := Lib.hid (HB2.out.trans (hb3.mono HB2.out.size))
  have HS3 := Lib.hid (show w2.heap.size + 3 < w3.heap.size from by obtain ⟨_, _, _, m3, _⟩ := ht3; exact m3.lt)
  clear ht3 hb3
  generalize w2.heap.size = g1 at *
  go_wp2_with fail
  (with_reducible refine (New_any (HT.out _ HB3.out).1 (HT.out _ HB3.out).2).mono ?_)
  rintro ex w4 ⟨rfl, ht4, hb4⟩
  have HT4 := Lib.hid (And.intro (HT3.out.1.below' hb4) (And.intro (HT3.out.2.below' hb4) ht4.r0))
  have HB4 := Lib.hid (HB3.out.trans (hb4.mono HB3.out.size))
  have HS4 := Lib.hid (show w3.heap.size + 3 < w4.heap.size from by obtain ⟨_, _, _, m3, _⟩ := ht4; exact m3.lt)
  clear ht4 hb4
  generalize w3.heap.size = g2 at *
  go_upto_region 6 with fail
  have hbb := Below.heap_alloc w4 (.cells #[.pointer (some ⟨g0, 0, none⟩), .pointer (some ⟨g1, 0, none⟩), .pointer (some ⟨g2, 0, none⟩)] 31)
  have hb5 : Below w4.heap.size w4 (w4.alloc (.cells #[.pointer (some ⟨g0, 0, none⟩), .pointer (some ⟨g1, 0, none⟩), .pointer (some ⟨g2, 0, none⟩)] 31)) := (Below.refl _ _).alloc (Nat.le_refl _) _
  have HO5 := Lib.hid (World.alloc_heap_new w4 (.cells #[.pointer (some ⟨g0, 0, none⟩), .pointer (some ⟨g1, 0, none⟩), .pointer (some ⟨g2, 0, none⟩)] 31))
  have HS5 := Lib.hid (World.size_alloc w4 (.cells #[.pointer (some ⟨g0, 0, none⟩), .pointer (some ⟨g1, 0, none⟩), .pointer (some ⟨g2, 0, none⟩)] 31))
  have HT5 := Lib.hid (And.intro (HT4.out.1.below' hb5) (And.intro (HT4.out.2.1.below' hb5) (HT4.out.2.2.below' hb5)))
  have HB5 := Lib.hid (HB4.out.trans (hb5.mono HB4.out.size))
  clear hb5 hbb
  generalize w4.alloc (.cells #[.pointer (some ⟨g0, 0, none⟩), .pointer (some ⟨g1, 0, none⟩), .pointer (some ⟨g2, 0, none⟩)] 31) = w5 at *
  generalize w4.heap.size = gO at *
  go_wp2_with fail
  (with_reducible refine (rNew_any w5).mono ?_)
  rintro ex w6 ⟨h0, rfl, hr6, hh6, hb6⟩
  have HR6 := Lib.hid (And.intro hr6 (And.intro hh6 hr6.lt))
  have HB6 := Lib.hid hb6
  clear hr6 hh6 hb6
  go_wp2_with fail
  (with_reducible refine (rNew_any w6).mono ?_)
  rintro ex w7 ⟨h1, rfl, hr7, hh7, hb7⟩
  have HR7 := Lib.hid (And.intro hr7 (And.intro hh7 (And.intro hr7.lt (HR6.out.1.below hb7))))
  have HB7 := Lib.hid (HB6.out.trans (hb7.mono HB6.out.size))
  clear hr7 hh7 hb7
  go_wp2_with fail
  (with_reducible refine (rNew_any w7).mono ?_)
  rintro ex w8 ⟨h2, rfl, hr8, hh8, hb8⟩
  have HR8 := Lib.hid (And.intro hr8 (And.intro hh8 (And.intro hr8.lt (And.intro (HR7.out.1.below hb8) (HR7.out.2.2.2.below hb8)))))
  have HB8 := Lib.hid (HB7.out.trans (hb8.mono HB7.out.size))
  clear hr8 hh8 hb8
  go_upto_region 7 with fail
  obtain ⟨W9, hW9⟩ : ∃ W9, w8.alloc (.cells #[.pointer (some ⟨h0, 0, none⟩), .pointer (some ⟨h1, 0, none⟩), .pointer (some ⟨h2, 0, none⟩)] 48) = W9 := ⟨_, rfl⟩
  have hP : PlI w gO w8.heap.size (rowsO 14).length (three g0 g1 g2) (three h0 h1 h2) (fun _ => R0) (fun _ => R0) W9 := by
    rw [← hW9]
    have hb9 : Below w8.heap.size w8 (w8.alloc (.cells #[.pointer (some ⟨h0, 0, none⟩), .pointer (some ⟨h1, 0, none⟩), .pointer (some ⟨h2, 0, none⟩)] 48)) := (Below.refl _ _).alloc (Nat.le_refl _) _
    have hb59 := HB8.out.trans (hb9.mono HB8.out.size)
    have s5 := HS5.out
    have hw5 := HB5.out.size
    exact PlI.start ((hb59.block gO (by omega)).trans HO5.out) (World.alloc_heap_new _ _) (HT5.out.1.below' hb59) (HT5.out.2.1.below' hb59) (HT5.out.2.2.below' hb59) (HR8.out.2.2.2.2.below hb9) (HR8.out.2.2.2.1.below hb9) (HR8.out.1.below hb9)
      ⟨HS2.out, HS3.out⟩ ⟨Nat.lt_of_lt_of_le HR6.out.2.2 HR7.out.2.1, Nat.lt_of_lt_of_le HR7.out.2.2.1 HR8.out.2.1⟩ ⟨HS1.out, Nat.le_trans hw5 HR6.out.2.1⟩ ⟨by have := HS1.out; have := HS2.out; have := HS3.out; have := HS4.out; omega, Nat.le_trans hw5 HB8.out.size⟩ (HB5.out.trans (hb59.mono hw5))
  have HP := Lib.hid (show ∃ N g h L, N ≤ 100 + 0 ∧ PlI w gO w8.heap.size N g h L L W9 ∧ LInv 0 L from ⟨_, _, _, _, rows_len, hP, fun k hk => ⟨inv_R0, by rw [R0_len]; have := L0_len; omega⟩⟩)
  clear hP
  rw [hW9]
  clear hW9
  generalize w8.heap.size = gR at *
  clear HB1 HB2 HB3 HB4 HB5 HB6 HB7 HB8 HR6 HR7 HR8 HT2 HT3 HT4 HT5 HO5 HS1 HS2 HS3 HS4 HS5
  go_wp2_with fail
  go_loopw [7] (fun v7 wr => ∃ i : Nat, v7 = .int .i64 (i : Int) ∧ i ≤ n ∧ Hid (∃ N g h L, N ≤ 100 + i ∧ PlI w gO gR N g h L L wr ∧ LInv i L)) (fun v7 _ => ((n : Int) - intOf v7).toNat)
  case atStart => exact ⟨0, rfl, Nat.zero_le _, HP⟩
  case round =>
    obtain ⟨i, rfl, hi, HI⟩ := hrel
    by_cases hlt : i < n
    · have hltI : (i : Int) < (n : Int) := by omega
      have hi0 : (0 : Int) ≤ (i : Int) := by omega
      obtain ⟨N, g, h, L, hN, hP, hL⟩ := HI.out
      obtain ⟨b, o, hAA, hbB, hcells⟩ := (HA.out wr hP.bel).rd (by omega)
      have hil : i < ls.length := by rw [(HA.out wr hP.bel).len]; exact hlt
      obtain ⟨x, hx⟩ : ∃ x, ls[i]? = some x := ⟨_, List.getElem?_eq_getElem hil⟩
      have hok := (HA.out wr hP.bel).nm x (List.mem_of_getElem? hx)
      have q0 := hcells i x hx 0 (by omega)
      have q1 := hcells i x hx 1 (by omega)
      have q2 := hcells i x hx 2 (by omega)
      have q3 := hcells i x hx 3 (by omega)
      have q4 := hcells i x hx 4 (by omega)
      have q5 := hcells i x hx 5 (by omega)
      subst hAA
      obtain ⟨kd, on, p, t, nn, nml⟩ := x
      obtain ⟨hnm, hon, hnn⟩ := hok
      unfold encC at q0 q1 q2 q3 q4 q5
      dsimp only at *
      rw [Nat.add_zero] at q0
      simp only [List.getElem?_cons_zero, List.getElem?_cons_succ, ← Nat.add_assoc] at q0 q1 q2 q3 q4 q5
      obtain ⟨nm, hnmE⟩ : ∃ nm : ByteArray, (⟨nml.toArray⟩ : ByteArray) = nm := ⟨_, rfl⟩
      rw [hnmE] at q5
      have HNm := Lib.hid (show nm.size ≤ maxLen by rw [← hnmE]; show nml.toArray.size ≤ maxLen; rw [List.size_toArray]; exact hnm)
      have HPk := Lib.hid (pick_any on hon)
      have HPn := Lib.hid (pick_any nn hnn)
      have HLT := Lib.hid hlt
      have HPP := Lib.hid hP
      have HLL := Lib.hid (And.intro hN hL)
      clear hcells hil hx hnm hon hnn hnmE hlt hN hP hL hi hbB
      go_upto_region 11 with fail
      obtain ⟨W1, hW1⟩ : ∃ W1, wr.alloc (.cells #[.int .i64 kd, .int .i64 on, .int .i64 p, .int .i64 t, .int .i64 nn, .string nm] 52) = W1 := ⟨_, rfl⟩
      have hCB : CBox W1 wr.heap.size kd on p t nn nm := ⟨by rw [← hW1]; exact World.alloc_heap_new wr _⟩
      have hP1 : PlI w gO gR N g h L L W1 := HPP.out.below (by rw [← hW1]; exact (Below.refl _ _).alloc (Nat.le_refl _) _)
      rw [hW1]
      clear hW1 q0 q1 q2 q3 q4 q5
      generalize wr.heap.size = gC at *
      have HC1 := Lib.hid hCB
      have HP1 := Lib.hid hP1
      clear HPP
      obtain ⟨p0, p1, p2, p3, p4, p5⟩ := hCB.cells
      clear hCB hP1
      go_wp2_with fail
      (with_reducible refine (HPk.out _).mono ?_)
      rintro ex w' ⟨rfl, rfl⟩
      obtain ⟨k, hk⟩ : ∃ k, pickV on = k := ⟨_, rfl⟩
      have hk3 : k < 3 := by rw [← hk]; exact pickV_lt on
      rw [hk]
      clear hk
      have hk3I : (k : Int) < 3 := by omega
      have hk0I : (0 : Int) ≤ (k : Int) := by omega
      have r0 := HP1.out.cellO hk3
      have r1 := HP1.out.cellR hk3
      have HK := Lib.hid hk3
      clear hk3
      have HPd := Lib.hid (HP1.out.below (below_drew (Below.refl _ W1)))
      have HCd := Lib.hid (HC1.out.below (below_drew (Below.refl _ W1)))
      have KSd := HPd.out.five HK.out HCd.out
      have HLk := Lib.hid (show (L k).length ≤ 4398046511101 ∧ N < maxLen from by
        have h8 := (HLL.out.2 k HK.out).2
        have h9 := HLL.out.1
        have h7 := HLT.out
        unfold maxLen
        omega)
      go_upto_region 14 with fail
      clear r0 r1 p0 p1 p2 p3 p4 p5
      by_cases hd1 : kd = 1
      · subst hd1
        obtain ⟨co, hco⟩ : ∃ co, code (L k) p t nm.data.toList = co := ⟨_, rfl⟩
        obtain ⟨l, hl⟩ : ∃ l, Ho.add (L k) p t nm.data.toList = l := ⟨_, rfl⟩
        have HAdd := Lib.hid (show Calls Tryd.prog 17 #[.pointer (some ⟨g k, 0, none⟩), .int .i64 p, .int .i64 t, .string nm] W1.drew (AddPost W1.drew (g k) (g k + 1) (g k + 2) (g k + 3) N (L k) l co) from by
          rw [← hco, ← hl]
          exact Add_any (HPd.out.tab k HK.out) HNm.out HLk.out.2)
        have HRad := Lib.hid (fun (w2 : World) (L2 : Nat → List OpV) (hP2 : PlI w gO gR (N + 1) g h L2 L w2) => show Calls Tryd.prog 26 #[.pointer (some ⟨h k, 0, none⟩), .int .i64 p, .int .i64 t, .string nm] w2 (rAddPost w2 (h k) l co) from by
          rw [← hco, ← hl]
          exact radd_any (hP2.rt k HK.out) HLk.out.1)
        have HLn := Lib.hid (show LInv (i + 1) (upd L k l) from by rw [← hl]; exact HLL.out.2.add HK.out _ _ _)
        clear hco hl
        go_upto_region 15 with fail
        go_region_held3 (fun w' => (w'.cell? ⟨gO, k, none⟩ = some (.pointer (some ⟨g k, 0, none⟩)) ∧ w'.cell? ⟨gR, k, none⟩ = some (.pointer (some ⟨h k, 0, none⟩))) ∧ w'.cell? ⟨gC, 2, none⟩ = some (.int .i64 p) ∧ w'.cell? ⟨gC, 3, none⟩ = some (.int .i64 t) ∧ w'.cell? ⟨gC, 4, none⟩ = some (.int .i64 nn) ∧ w'.cell? ⟨gC, 5, none⟩ = some (.string nm))
          (first
            | (go_keep; done)
            | exact KS3
            | exact KS2
            | exact KSd)
          (first
            | (go_at_call 17; (with_reducible refine HAdd.out.mono ?_); intro e w2 h2; obtain ⟨he2, hP2, hC2⟩ := HPd.out.addC HK.out HCd.out h2; subst he2; have KS2 := hP2.five HK.out hC2; have HP2 := Lib.hid hP2; have HC2 := Lib.hid hC2; clear hP2 hC2 h2)
            | (go_at_call 26; (with_reducible refine (HRad.out _ _ HP2.out).mono ?_); intro e w3 h3; obtain ⟨he3, hP3, hC3⟩ := HP2.out.raddC HK.out HC2.out h3; subst he3; have KS3 := hP3.five HK.out hC3; have HP3 := Lib.hid hP3; clear hP3 hC3 h3))
        have HE := Lib.hid (show ∃ N g h L, N ≤ 100 + (i + 1) ∧ PlI w gO gR N g h L L w3 ∧ LInv (i + 1) L from ⟨N + 1, g, h, upd L k l, by have := HLL.out.1; omega, HP3.out, HLn.out⟩)
        clear KSd KS2 KS3
        go_wp2
        go_roundw
        case rel => exact ⟨i + 1, rfl, HLT.out, HE⟩
        case measure =>
          have := HLT.out
          show ((n : Int) - ((i : Int) + 1)).toNat < ((n : Int) - (i : Int)).toNat
          omega
      by_cases hd2 : kd = 2
      · subst hd2
        have HAsk := Lib.hid (asked_any (HPd.out.tab k HK.out) (HPd.out.rt k HK.out) HLk.out.1 HNm.out)
        go_upto_region 17 with fail
        go_region_held3 (fun w' => (w'.cell? ⟨gO, k, none⟩ = some (.pointer (some ⟨g k, 0, none⟩)) ∧ w'.cell? ⟨gR, k, none⟩ = some (.pointer (some ⟨h k, 0, none⟩))) ∧ w'.cell? ⟨gC, 2, none⟩ = some (.int .i64 p) ∧ w'.cell? ⟨gC, 3, none⟩ = some (.int .i64 t) ∧ w'.cell? ⟨gC, 4, none⟩ = some (.int .i64 nn) ∧ w'.cell? ⟨gC, 5, none⟩ = some (.string nm))
          (first
            | (go_keep; done)
            | exact KS2
            | exact KSd)
          (first
            | (go_at_call 27; (with_reducible refine HAsk.out.mono ?_); rintro e w2 ⟨rfl, hb2⟩; have hP2 := HPd.out.below hb2; have KS2 := hP2.five HK.out (HCd.out.below hb2); have HP2 := Lib.hid hP2; clear hP2 hb2))
        have HE := Lib.hid (show ∃ N g h L, N ≤ 100 + (i + 1) ∧ PlI w gO gR N g h L L w2 ∧ LInv (i + 1) L from ⟨N, g, h, L, by have := HLL.out.1; omega, HP2.out, HLL.out.2.more⟩)
        clear KSd KS2
        go_wp2
        go_roundw
        case rel => exact ⟨i + 1, rfl, HLT.out, HE⟩
        case measure =>
          have := HLT.out
          show ((n : Int) - ((i : Int) + 1)).toNat < ((n : Int) - (i : Int)).toNat
          omega
      by_cases hd3 : kd = 3
      · subst hd3
        have HLis := Lib.hid (listed_any (HPd.out.tab k HK.out) (HPd.out.rt k HK.out) (HLL.out.2 k HK.out).1 (HLL.out.2.pos HK.out) HLk.out.1)
        go_upto_region 19 with fail
        go_region_held3 (fun w' => (w'.cell? ⟨gO, k, none⟩ = some (.pointer (some ⟨g k, 0, none⟩)) ∧ w'.cell? ⟨gR, k, none⟩ = some (.pointer (some ⟨h k, 0, none⟩))) ∧ w'.cell? ⟨gC, 2, none⟩ = some (.int .i64 p) ∧ w'.cell? ⟨gC, 3, none⟩ = some (.int .i64 t) ∧ w'.cell? ⟨gC, 4, none⟩ = some (.int .i64 nn) ∧ w'.cell? ⟨gC, 5, none⟩ = some (.string nm))
          (first
            | (go_keep; done)
            | exact KS2
            | exact KSd)
          (first
            | (go_at_call 28; (with_reducible refine HLis.out.mono ?_); rintro e w2 ⟨rfl, hb2⟩; have hP2 := HPd.out.below hb2; have KS2 := hP2.five HK.out (HCd.out.below hb2); have HP2 := Lib.hid hP2; clear hP2 hb2))
        have HE := Lib.hid (show ∃ N g h L, N ≤ 100 + (i + 1) ∧ PlI w gO gR N g h L L w2 ∧ LInv (i + 1) L from ⟨N, g, h, L, by have := HLL.out.1; omega, HP2.out, HLL.out.2.more⟩)
        clear KSd KS2
        go_wp2
        go_roundw
        case rel => exact ⟨i + 1, rfl, HLT.out, HE⟩
        case measure =>
          have := HLT.out
          show ((n : Int) - ((i : Int) + 1)).toNat < ((n : Int) - (i : Int)).toNat
          omega
      by_cases hd4 : kd = 4
      · subst hd4
        obtain ⟨j, hj⟩ : ∃ j, pickV nn = j := ⟨_, rfl⟩
        have hj3 : j < 3 := by rw [← hj]; exact pickV_lt nn
        rw [hj] at HPn
        have hj3I : (j : Int) < 3 := by omega
        have hj0I : (0 : Int) ≤ (j : Int) := by omega
        have HJ := Lib.hid hj3
        clear hj hj3
        have HCp := Lib.hid (Copy_any clone_ok (HPd.out.tab k HK.out))
        go_upto_region 21 with fail
        refine wp_region_wait (fun w' => (w'.cell? ⟨gO, k, none⟩ = some (.pointer (some ⟨g k, 0, none⟩)) ∧ w'.cell? ⟨gR, k, none⟩ = some (.pointer (some ⟨h k, 0, none⟩))) ∧ w'.cell? ⟨gC, 2, none⟩ = some (.int .i64 p) ∧ w'.cell? ⟨gC, 3, none⟩ = some (.int .i64 t) ∧ w'.cell? ⟨gC, 4, none⟩ = some (.int .i64 nn) ∧ w'.cell? ⟨gC, 5, none⟩ = some (.string nm)) 10 (by kernel_rfl) ?_
        refine wpAnyW_take 10 (i := 0) (v := .slice (some ⟨gO, 0, none⟩) 3 3) rfl (by kernel_rfl) (by kernel_rfl) (by kernel_rfl) (by kernel_rfl) (fun _ _ _ h => h) (Or.inl ⟨by rfl, ?_⟩) (by exact KSd) ?_
        · intro w5 hSw
          obtain ⟨⟨s0, s1⟩, s2, s3, s4, s5⟩ := hSw
          go_simp
        refine wpAnyW_take 10 (i := 1) (v := .pointer (some ⟨gC, 4, none⟩)) rfl (by kernel_rfl) (by kernel_rfl) (by kernel_rfl) (by kernel_rfl) (fun _ _ _ h => h) (Or.inl ⟨by rfl, ?_⟩) (by exact KSd) ?_
        · intro w5 hSw
          obtain ⟨⟨s0, s1⟩, s2, s3, s4, s5⟩ := hSw
          go_simp
        refine wpAnyW_take 10 (i := 2) (v := .int .i64 nn) rfl (by kernel_rfl) (by kernel_rfl) (by kernel_rfl) (by kernel_rfl) (fun _ _ _ h => h) (Or.inl ⟨by rfl, ?_⟩) (by exact KSd) ?_
        · intro w5 hSw
          obtain ⟨⟨s0, s1⟩, s2, s3, s4, s5⟩ := hSw
          go_simp
        refine wpAnyW_take 10 (i := 4) (v := .slice (some ⟨gO, 0, none⟩) 3 3) rfl (by kernel_rfl) (by kernel_rfl) (by kernel_rfl) (by kernel_rfl) (fun _ _ _ h => h) (Or.inl ⟨by rfl, ?_⟩) (by exact KSd) ?_
        · intro w5 hSw
          obtain ⟨⟨s0, s1⟩, s2, s3, s4, s5⟩ := hSw
          go_simp
        refine wpAnyW_take 10 (i := 5) (v := .int .i64 (k : Int)) rfl (by kernel_rfl) (by kernel_rfl) (by kernel_rfl) (by kernel_rfl) (fun _ _ _ h => h) (Or.inl ⟨by rfl, ?_⟩) (by exact KSd) ?_
        · intro w5 hSw
          obtain ⟨⟨s0, s1⟩, s2, s3, s4, s5⟩ := hSw
          go_simp
        refine wpAnyW_take 10 (i := 6) (v := .pointer (some ⟨gO, k, none⟩)) rfl (by kernel_rfl) (by kernel_rfl) (by kernel_rfl) (by kernel_rfl) (fun _ _ _ h => h) (Or.inl ⟨by rfl, ?_⟩) (by exact KSd) ?_
        · intro w5 hSw
          obtain ⟨⟨s0, s1⟩, s2, s3, s4, s5⟩ := hSw
          go_simp
        refine wpAnyW_take 10 (i := 7) (v := .pointer (some ⟨g k, 0, none⟩)) rfl (by kernel_rfl) (by kernel_rfl) (by kernel_rfl) (by kernel_rfl) (fun _ _ _ h => h) (Or.inl ⟨by rfl, ?_⟩) (by exact KSd) ?_
        · intro w5 hSw
          obtain ⟨⟨s0, s1⟩, s2, s3, s4, s5⟩ := hSw
          go_simp
        refine wpAnyW_one (i := 3) (by kernel_rfl) rfl (fun K hK => ?_)
        go_simp
        (with_reducible refine (HPn.out _).mono ?_)
        rintro ex w' ⟨rfl, rfl⟩
        refine hK.out _ _ (fun _ => KSd) ?_
        refine wpAnyW_one (i := 8) (by kernel_rfl) rfl (fun K hK => ?_)
        go_simp
        (with_reducible refine HCp.out.mono ?_)
        rintro ex w2 ⟨rfl, ht2, hb2⟩
        have hP2 := HPd.out.below hb2
        have hC2 := HCd.out.below hb2
        have KS2 := hP2.five HK.out hC2
        have cO := hP2.cellO HJ.out
        have fO := hP2.frozenO j
        have HP2 := Lib.hid (hP2.storeO (b := W1.heap.size) HJ.out ht2 HPd.out.bel.size (fun i hi => (HPd.out.lt hi).1))
        have HC2 := Lib.hid (hC2.storeO hP2 j (.pointer (some ⟨W1.heap.size, 0, none⟩)))
        have HL2 := Lib.hid (show LInv i (upd L j (L k)) from HLL.out.2.put HK.out)
        clear hP2 hC2 ht2 hb2
        refine hK.out _ _ (fun _ => KS2) ?_
        refine wpAnyW_one (i := 9) (by kernel_rfl) rfl (fun K hK => ?_)
        go_simp
        refine hK.out _ _ (fun _ => KS2) ?_
        refine wpAnyW_one (i := 10) (by kernel_rfl) rfl (fun K hK => ?_)
        go_simp
        refine hK.out _ _ (fun h => absurd h (by simp)) ?_
        refine wpAnyW_done (by kernel_rfl) ?_ _
        clear KSd KS2 cO fO
        generalize w2.setCell ⟨gO, j, none⟩ (.pointer (some ⟨W1.heap.size, 0, none⟩)) = w3 at *
        generalize upd g j W1.heap.size = g2 at *
        have HPe := Lib.hid (HP2.out.below (below_drew (Below.refl _ w3)))
        have HCe := Lib.hid (HC2.out.below (below_drew (Below.refl _ w3)))
        have KSe := HPe.out.five HK.out HCe.out
        have HRc := Lib.hid (rcopy_any (HPe.out.rt k HK.out) (HLL.out.2.pos HK.out) HLk.out.1)
        go_upto_region 22 with fail
        refine wp_region_wait (fun w' => (w'.cell? ⟨gO, k, none⟩ = some (.pointer (some ⟨g2 k, 0, none⟩)) ∧ w'.cell? ⟨gR, k, none⟩ = some (.pointer (some ⟨h k, 0, none⟩))) ∧ w'.cell? ⟨gC, 2, none⟩ = some (.int .i64 p) ∧ w'.cell? ⟨gC, 3, none⟩ = some (.int .i64 t) ∧ w'.cell? ⟨gC, 4, none⟩ = some (.int .i64 nn) ∧ w'.cell? ⟨gC, 5, none⟩ = some (.string nm)) 10 (by kernel_rfl) ?_
        refine wpAnyW_take 10 (i := 0) (v := .slice (some ⟨gR, 0, none⟩) 3 3) rfl (by kernel_rfl) (by kernel_rfl) (by kernel_rfl) (by kernel_rfl) (fun _ _ _ h => h) (Or.inl ⟨by rfl, ?_⟩) (by exact KSe) ?_
        · intro w5 hSw
          obtain ⟨⟨s0, s1⟩, s2, s3, s4, s5⟩ := hSw
          go_simp
        refine wpAnyW_take 10 (i := 1) (v := .pointer (some ⟨gC, 4, none⟩)) rfl (by kernel_rfl) (by kernel_rfl) (by kernel_rfl) (by kernel_rfl) (fun _ _ _ h => h) (Or.inl ⟨by rfl, ?_⟩) (by exact KSe) ?_
        · intro w5 hSw
          obtain ⟨⟨s0, s1⟩, s2, s3, s4, s5⟩ := hSw
          go_simp
        refine wpAnyW_take 10 (i := 2) (v := .int .i64 nn) rfl (by kernel_rfl) (by kernel_rfl) (by kernel_rfl) (by kernel_rfl) (fun _ _ _ h => h) (Or.inl ⟨by rfl, ?_⟩) (by exact KSe) ?_
        · intro w5 hSw
          obtain ⟨⟨s0, s1⟩, s2, s3, s4, s5⟩ := hSw
          go_simp
        refine wpAnyW_take 10 (i := 4) (v := .slice (some ⟨gR, 0, none⟩) 3 3) rfl (by kernel_rfl) (by kernel_rfl) (by kernel_rfl) (by kernel_rfl) (fun _ _ _ h => h) (Or.inl ⟨by rfl, ?_⟩) (by exact KSe) ?_
        · intro w5 hSw
          obtain ⟨⟨s0, s1⟩, s2, s3, s4, s5⟩ := hSw
          go_simp
        refine wpAnyW_take 10 (i := 5) (v := .int .i64 (k : Int)) rfl (by kernel_rfl) (by kernel_rfl) (by kernel_rfl) (by kernel_rfl) (fun _ _ _ h => h) (Or.inl ⟨by rfl, ?_⟩) (by exact KSe) ?_
        · intro w5 hSw
          obtain ⟨⟨s0, s1⟩, s2, s3, s4, s5⟩ := hSw
          go_simp
        refine wpAnyW_take 10 (i := 6) (v := .pointer (some ⟨gR, k, none⟩)) rfl (by kernel_rfl) (by kernel_rfl) (by kernel_rfl) (by kernel_rfl) (fun _ _ _ h => h) (Or.inl ⟨by rfl, ?_⟩) (by exact KSe) ?_
        · intro w5 hSw
          obtain ⟨⟨s0, s1⟩, s2, s3, s4, s5⟩ := hSw
          go_simp
        refine wpAnyW_take 10 (i := 7) (v := .pointer (some ⟨h k, 0, none⟩)) rfl (by kernel_rfl) (by kernel_rfl) (by kernel_rfl) (by kernel_rfl) (fun _ _ _ h => h) (Or.inl ⟨by rfl, ?_⟩) (by exact KSe) ?_
        · intro w5 hSw
          obtain ⟨⟨s0, s1⟩, s2, s3, s4, s5⟩ := hSw
          go_simp
        refine wpAnyW_one (i := 3) (by kernel_rfl) rfl (fun K hK => ?_)
        go_simp
        (with_reducible refine (HPn.out _).mono ?_)
        rintro ex w' ⟨rfl, rfl⟩
        refine hK.out _ _ (fun _ => KSe) ?_
        refine wpAnyW_one (i := 8) (by kernel_rfl) rfl (fun K hK => ?_)
        go_simp
        (with_reducible refine HRc.out.mono ?_)
        rintro ex w4 ⟨h', rfl, hr4, hh4, hb4⟩
        have hP4 := HPe.out.below hb4
        have KS4 := hP4.five HK.out (HCe.out.below hb4)
        have cR := hP4.cellR HJ.out
        have fR := hP4.frozenR j
        have HP4 := Lib.hid (hP4.storeR HJ.out hr4 (Nat.le_trans HPe.out.bel.size hh4) (fun i hi => Nat.ne_of_lt (Nat.lt_of_lt_of_le (HPe.out.lt hi).2 hh4)))
        clear hP4 hr4 hh4 hb4
        refine hK.out _ _ (fun _ => KS4) ?_
        refine wpAnyW_one (i := 9) (by kernel_rfl) rfl (fun K hK => ?_)
        go_simp
        refine hK.out _ _ (fun _ => KS4) ?_
        refine wpAnyW_one (i := 10) (by kernel_rfl) rfl (fun K hK => ?_)
        go_simp
        refine hK.out _ _ (fun h => absurd h (by simp)) ?_
        refine wpAnyW_done (by kernel_rfl) ?_ _
        have HE := Lib.hid (show ∃ N g h L, N ≤ 100 + (i + 1) ∧ PlI w gO gR N g h L L (w4.setCell ⟨gR, j, none⟩ (.pointer (some ⟨h', 0, none⟩))) ∧ LInv (i + 1) L from ⟨N, g2, upd h j h', upd L j (L k), by have := HLL.out.1; omega, HP4.out, HL2.out.more⟩)
        clear KSe KS4 cR fR
        go_wp2
        go_roundw
        case rel => exact ⟨i + 1, rfl, HLT.out, HE⟩
        case measure =>
          have := HLT.out
          show ((n : Int) - ((i : Int) + 1)).toNat < ((n : Int) - (i : Int)).toNat
          omega
      have d1 : (kd == 1) = false := beq_eq_false_iff_ne.2 hd1
      have d2 : (kd == 2) = false := beq_eq_false_iff_ne.2 hd2
      have d3 : (kd == 3) = false := beq_eq_false_iff_ne.2 hd3
      have d4 : (kd == 4) = false := beq_eq_false_iff_ne.2 hd4
      have HE := Lib.hid (show ∃ N g h L, N ≤ 100 + (i + 1) ∧ PlI w gO gR N g h L L W1 ∧ LInv (i + 1) L from ⟨N, g, h, L, by have := HLL.out.1; omega, HP1.out, HLL.out.2.more⟩)
      clear hd1 hd2 hd3 hd4 KSd
      go_wp2
      go_roundw
      case rel => exact ⟨i + 1, rfl, HLT.out, HE⟩
      case measure =>
        have := HLT.out
        show ((n : Int) - ((i : Int) + 1)).toNat < ((n : Int) - (i : Int)).toNat
        omega
    · have ei : i = n := by omega
      subst ei
      obtain ⟨N, g, h, L, hN, hP, hL⟩ := HI.out
      have HP9 := Lib.hid hP
      have HL9 := Lib.hid hL
      have HI9 := Lib.hid hn
      clear hN hP hL hlt hi HI
      go_wp2_with fail
      go_loopw [11] (fun v11 wz => ∃ k : Nat, v11 = .int .i64 (k : Int) ∧ k ≤ 3 ∧ Hid (PlI w gO gR N g h L L wz)) (fun v11 _ => (3 - intOf v11).toNat)
      case atStart => exact ⟨0, rfl, Nat.zero_le _, HP9⟩
      case round =>
        obtain ⟨k, rfl, hk, HZ⟩ := hrel
        by_cases hk3 : k < 3
        · have hk3I : (k : Int) < 3 := by omega
          have hk0I : (0 : Int) ≤ (k : Int) := by omega
          have HPd := Lib.hid (HZ.out.below (below_drew (Below.refl _ _)))
          have KSd := And.intro (HPd.out.cellO hk3) (HPd.out.cellR hk3)
          have HLis := Lib.hid (listed_any (HPd.out.tab k hk3) (HPd.out.rt k hk3) (HL9.out k hk3).1 (HL9.out.pos hk3) (by have := (HL9.out k hk3).2; have := HI9.out; omega))
          have HK := Lib.hid hk3
          clear hk3 hk
          go_upto_region 28 with fail
          go_region_held3 (fun w' => w'.cell? ⟨gO, k, none⟩ = some (.pointer (some ⟨g k, 0, none⟩)) ∧ w'.cell? ⟨gR, k, none⟩ = some (.pointer (some ⟨h k, 0, none⟩)))
            (first
              | (go_keep; done)
              | exact KS2
              | exact KSd)
            (first
              | (go_at_call 28; (with_reducible refine HLis.out.mono ?_); rintro e w2 ⟨rfl, hb2⟩; have hP2 := HPd.out.below hb2; have KS2 := And.intro (hP2.cellO HK.out) (hP2.cellR HK.out); have HP2 := Lib.hid hP2; clear hP2 hb2))
          clear KSd KS2
          go_wp2
          go_roundw
          case rel => exact ⟨k + 1, rfl, HK.out, HP2⟩
          case measure =>
            have := HK.out
            show (3 - ((k : Int) + 1)).toNat < (3 - (k : Int)).toNat
            omega
        · have ek : k = 3 := by omega
          subst ek
          have HE := Lib.hid HZ.out.bel
          clear hk hk3
          go_wp2
          go_ret
          exact ⟨rfl, HE.out⟩
end Go.Proofs.YtfdcponamkfcaaaDoor

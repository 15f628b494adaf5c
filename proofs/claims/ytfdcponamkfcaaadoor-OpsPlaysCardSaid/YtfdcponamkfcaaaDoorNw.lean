import Derived.Test.YtfdcponamkfcaaaDoorNm
import Derived.StillTailTactics
namespace Go.Proofs.YtfdcponamkfcaaaDoor
open Go.RowKit Ho Go.Maps Go.Shelf Go.Sort Hb
set_option linter.unusedVariables false
set_option linter.unusedSimpArgs false
/-! ### the reference: Class -/
theorem rclass_any (t : Int) (w : World) :
    Calls Tryd.prog 43 #[.int .i64 t] w fun e w' => e = .returned (.int .i64 (cls t : Int)) ∧ w = w' := by
  by_cases h1 : t = 1
  · subst h1
    go_enter Tryd.func43, Tryd.ntmps43
    go_wp2
    go_ret
    exact ⟨rfl, rfl⟩
  by_cases h2 : t = 2
  · subst h2
    go_enter Tryd.func43, Tryd.ntmps43
    go_wp2
    go_ret
    exact ⟨rfl, rfl⟩
  by_cases h3 : t = 3
  · subst h3
    go_enter Tryd.func43, Tryd.ntmps43
    go_wp2
    go_ret
    exact ⟨rfl, rfl⟩
  by_cases h4 : t = 4
  · subst h4
    go_enter Tryd.func43, Tryd.ntmps43
    go_wp2
    go_ret
    exact ⟨rfl, rfl⟩
  by_cases h5 : t = 5
  · subst h5
    go_enter Tryd.func43, Tryd.ntmps43
    go_wp2
    go_ret
    exact ⟨rfl, rfl⟩
  by_cases h6 : t = 6
  · subst h6
    go_enter Tryd.func43, Tryd.ntmps43
    go_wp2
    go_ret
    exact ⟨rfl, rfl⟩
  by_cases h7 : t = 7
  · subst h7
    go_enter Tryd.func43, Tryd.ntmps43
    go_wp2
    go_ret
    exact ⟨rfl, rfl⟩
  have HC := Lib.hid (show cls t = 0 by unfold cls; rw [if_neg (by omega), if_neg (by omega), if_neg (by omega)])
  have d1 : (t == 1) = false := beq_eq_false_iff_ne.2 h1
  have d2 : (t == 2) = false := beq_eq_false_iff_ne.2 h2
  have d3 : (t == 3) = false := beq_eq_false_iff_ne.2 h3
  have d4 : (t == 4) = false := beq_eq_false_iff_ne.2 h4
  have d5 : (t == 5) = false := beq_eq_false_iff_ne.2 h5
  have d6 : (t == 6) = false := beq_eq_false_iff_ne.2 h6
  have d7 : (t == 7) = false := beq_eq_false_iff_ne.2 h7
  clear h1 h2 h3 h4 h5 h6 h7
  go_enter Tryd.func43, Tryd.ntmps43
  go_wp2
  go_ret
  exact ⟨by rw [HC.out]; rfl, rfl⟩
/-- block h is the reference's table of the list L -/
def RTab (w : World) (h : Nat) (L : List OpV) : Prop :=
  ∃ A c, Boxed w h 77 (.slice A L.length c) ∧ w.ownsRow 0 23 3 (.slice A L.length c) L.length (flO L)
theorem RTab.lt {w : World} {h : Nat} {L : List OpV} (hh : RTab w h L) : h < w.heap.size := let ⟨_, _, hb, _⟩ := hh; hb.lt
theorem RTab.below {w w' : World} {h : Nat} {L : List OpV} (hh : RTab w h L) (hb : Below w.heap.size w w') : RTab w' h L := by
  obtain ⟨A, c, h1, h2⟩ := hh
  refine ⟨A, c, (hb.block h h1.lt).trans h1, h2.1, ?_⟩
  rcases h2.2 with h3 | ⟨g, cap, cur, h3, h4, h5, h6⟩
  · exact .inl h3
  · exact .inr ⟨g, cap, cur, h3, h4, (hb.block g (Array.getElem?_eq_some_iff.1 h5).1).trans h5, h6⟩
theorem RTab.grown {w w' : World} {h j : Nat} {L : List OpV} (hh : RTab w h L) (hg : w.grownBy w' (some j)) (hj : h ≠ j) (hn : ∀ cs k, w.heap[j]? ≠ some (.cells cs 23 k)) : RTab w' h L := by
  obtain ⟨A, c, h1, h2⟩ := hh
  refine ⟨A, c, h1.kept hg (fun e => hj (Option.some.inj e)), h2.1, ?_⟩
  rcases h2.2 with h3 | ⟨g, cap, cur, h3, h4, h5, h6⟩
  · exact .inl h3
  · exact .inr ⟨g, cap, cur, h3, h4, (hg.block g (Array.getElem?_eq_some_iff.1 h5).1 (fun e => hn _ _ (by rw [← Option.some.inj e]; exact h5))).trans h5, h6⟩
/-- its elements -/
theorem RTab.of {w : World} {h : Nat} {L : List OpV} (hh : RTab w h L) (hn : 0 < L.length) : ∃ s c, Boxed w h 77 (.slice (some ⟨s, 0, none⟩) L.length c) ∧ RowO w s L ∧ L.length ≤ c := by
  obtain ⟨A, c, h1, h2⟩ := hh
  have hc := owns_cap h2
  rcases h2.2 with ⟨h3, h4⟩ | ⟨g, cap, cur, h3, _⟩
  · omega
  · injection h3 with a _ _
    subst a
    exact ⟨g, c, h1, (row_of_owns h2).1, hc⟩
theorem RTab.box {w : World} {h : Nat} {L : List OpV} (hh : RTab w h L) : ∃ A c, Boxed w h 77 (.slice A L.length c) ∧ L.length ≤ c ∧ (0 < L.length → ∃ s, A = some ⟨s, 0, none⟩ ∧ RowO w s L) := by
  obtain ⟨A, c, h1, h2⟩ := hh
  refine ⟨A, c, h1, owns_cap h2, fun hn => ?_⟩
  rcases h2.2 with ⟨h3, h4⟩ | ⟨g, cap, cur, h3, _⟩
  · omega
  · injection h3 with a _ _
    subst a
    exact ⟨g, rfl, (row_of_owns h2).1⟩
/-! ### Find -/
theorem find_take_succ {L : List OpV} {c : Nat} {n : List UInt8} {i : Nat} {y : OpV} (hy : L[i]? = some y) (h : Ho.find (L.take i) c n = none) (hn : isK c n y = false) : Ho.find (L.take (i + 1)) c n = none := by
  obtain ⟨hi, e⟩ := List.getElem?_eq_some_iff.1 hy
  rw [List.take_succ_eq_append_getElem hi, find_append, h, e]
  unfold Ho.find
  rw [List.find?_cons_of_neg (by rw [hn]; simp)]
  rfl
theorem find_hit {L : List OpV} {c : Nat} {n : List UInt8} {i : Nat} {y : OpV} (hy : L[i]? = some y) (h : Ho.find (L.take i) c n = none) (hn : isK c n y = true) : Ho.find L c n = some y := by
  obtain ⟨hi, e⟩ := List.getElem?_eq_some_iff.1 hy
  have e2 : L = L.take i ++ (y :: L.drop (i + 1)) := by rw [← e, ← List.drop_eq_getElem_cons hi, List.take_append_drop]
  rw [e2, find_append, h, Option.none_or]
  unfold Ho.find
  rw [List.find?_cons_of_pos hn]
set_option maxRecDepth 100000 in
set_option maxHeartbeats 4000000 in
theorem rfind_any {w : World} {h : Nat} {L : List OpV} (hR : RTab w h L) (hL : L.length ≤ 4398046511200) {c : Nat} {s : ByteArray} :
    Calls Tryd.prog 44 #[.pointer (some ⟨h, 0, none⟩), .int .i64 (c : Int), .string s] w (FindPost w (Ho.find L c s.data.toList)) := by
  have hlt := hR.lt
  have hb1 : Below w.heap.size w (w.alloc (.cells #[.string ⟨#[]⟩, .int .i64 0, .int .i64 0] 23)) := (Below.refl _ _).alloc (Nat.le_refl _) _
  have HB1 := Lib.hid hb1
  have HR1 := Lib.hid (hR.below hb1)
  have HX1 := Lib.hid (World.alloc_heap_new w (.cells #[.string ⟨#[]⟩, .int .i64 0, .int .i64 0] 23))
  have HCl := Lib.hid (fun (t : Int) w1 => show Calls Tryd.prog 43 #[.int .i64 t] w1 (fun e w' => e = .returned (.int .i64 (cls t : Int)) ∧ w1 = w') from rclass_any t w1)
  have hLI : (L.length : Int) ≤ 4398046511200 := by omega
  clear hR hb1
  go_enter Tryd.func44, Tryd.ntmps44
  go_wp2_with fail
  generalize w.alloc (.cells #[.string ⟨#[]⟩, .int .i64 0, .int .i64 0] 23) = W1 at *
  go_loopw [8] (fun v8 wr => ∃ i : Nat, v8 = .int .i64 (i : Int) ∧ i ≤ L.length ∧ Hid (Dr W1 wr ∧ Ho.find (L.take i) c s.data.toList = none))
    (fun v8 wr => ((L.length : Int) - intOf v8).toNat)
  case atStart => exact ⟨0, rfl, Nat.zero_le _, Lib.hid ⟨Dr.refl _, rfl⟩⟩
  case round =>
    obtain ⟨i, rfl, hi, HP⟩ := hrel
    have hRr : RTab wr h L := HR1.out.below (HP.out.1.below _)
    obtain ⟨A, cc, hbx, hcap, hAA⟩ := hRr.box
    have hbc := hbx.cell
    by_cases hlt' : i < L.length
    · have hltI : (i : Int) < (L.length : Int) := by omega
      have hi0 : (0 : Int) ≤ (i : Int) := by omega
      obtain ⟨sb, rfl, hrow⟩ := hAA (by omega)
      obtain ⟨y, hy⟩ : ∃ y, L[i]? = some y := ⟨_, List.getElem?_eq_getElem hlt'⟩
      obtain ⟨q0, q1, q2⟩ := hrow.of hy
      obtain ⟨yn, yt, yp, hyn, hyt, hyp, hY⟩ := opV_lit y
      rw [hyn] at q0
      rw [hyt] at q1
      rw [hyp] at q2
      have hnd : yn.data.toList = y.n := by rw [← hyn]
      obtain ⟨cy, hcy⟩ : ∃ cy, cls y.t = cy := ⟨_, rfl⟩
      have HC1 := Lib.hid (fun w1 => show Calls Tryd.prog 43 #[.int .i64 yt] w1 (fun e w' => e = .returned (.int .i64 (cy : Int)) ∧ w1 = w') from by rw [← hcy, hyt]; exact HCl.out yt w1)
      have HLT := Lib.hid hlt'
      have HYY := Lib.hid (And.intro hy (And.intro hnd (And.intro hcy hY)))
      have HHH := Lib.hid (And.intro hyn (And.intro hyt hyp))
      clear hi hlt' hrow hyn hyt hyp hcy hY hRr hbx hy
      by_cases hn : y.n = s.data.toList
      · have s1 : (yn.toList == s.toList) = true := by rw [ByteArray.toList_eq, ByteArray.toList_eq, hnd, hn]; simp
        by_cases hc : cy = c
        · have s2 : ((cy : Int) == (c : Int)) = true := by rw [hc]; simp
          have HF := Lib.hid (show Ho.find L c s.data.toList = some y from find_hit HYY.out.1 HP.out.2 (isK_iff.2 ⟨hn, by rw [HYY.out.2.2.1, hc]⟩))
          have hX2 : wr.heap[w.heap.size]? = some (.cells #[.string ⟨#[]⟩, .int .i64 0, .int .i64 0] 23 (0, 0)) := by rw [HP.out.1.heap]; exact HX1.out
          have hX : wr.drew.heap[w.heap.size]? = some (.cells #[.string ⟨#[]⟩, .int .i64 0, .int .i64 0] 23 (0, 0)) := hX2
          have c0 : wr.cell? ⟨w.heap.size, 0, none⟩ = some (.string ⟨#[]⟩) := by rw [cell_of_row wr _ 0 _ _ (0, 0) hX2]; rfl
          have c1 : wr.cell? ⟨w.heap.size, 1, none⟩ = some (.int .i64 0) := by rw [cell_of_row wr _ 1 _ _ (0, 0) hX2]; rfl
          have c2 : wr.cell? ⟨w.heap.size, 2, none⟩ = some (.int .i64 0) := by rw [cell_of_row wr _ 2 _ _ (0, 0) hX2]; rfl
          have f0 : wr.frozen? ⟨w.heap.size, 0, none⟩ = false := by simp [World.frozen?, hX2]
          have f1 : wr.frozen? ⟨w.heap.size, 1, none⟩ = false := by simp [World.frozen?, hX2]
          have f2 : wr.frozen? ⟨w.heap.size, 2, none⟩ = false := by simp [World.frozen?, hX2]
          have HBW := Lib.hid (HB1.out.trans (HP.out.1.below _))
          clear hn hc hX hX2 hnd
          go_wp2_with (go_at_call 43; (with_reducible refine (HC1.out _).mono ?_); rintro e w' ⟨rfl, rfl⟩)
          exact bodyPost_ret (v := .tuple #[.agg #[.string yn, .int .i64 yt, .int .i64 yp], .bool true]) (by simp [results, Tryd.results44, go_sem, c0, c1, c2]) rfl ⟨by rw [HF.out]; show _ = Ending.returned (.tuple #[opV y, .bool true]); rw [HYY.out.2.2.2], ((HBW.out.setCell (Nat.le_refl _) _).setCell (Nat.le_refl _) _).setCell (Nat.le_refl _) _⟩
        · have s2 : ((cy : Int) == (c : Int)) = false := beq_eq_false_iff_ne.2 (by omega)
          have HF := Lib.hid (find_take_succ HYY.out.1 HP.out.2 (by rw [Bool.eq_false_iff]; intro e; have := (isK_iff.1 e).2; rw [HYY.out.2.2.1] at this; exact hc this))
          clear hn hc hnd
          go_wp2_with (go_at_call 43; (with_reducible refine (HC1.out _).mono ?_); rintro e w' ⟨rfl, rfl⟩)
          go_roundw
          case rel => exact ⟨i + 1, rfl, HLT.out, Lib.hid ⟨HP.out.1, HF.out⟩⟩
          case measure =>
            have := HLT.out
            show ((L.length : Int) - ((i : Int) + 1)).toNat < ((L.length : Int) - (i : Int)).toNat
            omega
      · have s1 : (yn.toList == s.toList) = false := by rw [ByteArray.toList_eq, ByteArray.toList_eq, hnd]; exact beq_eq_false_iff_ne.2 hn
        have HF := Lib.hid (find_take_succ (c := c) HYY.out.1 HP.out.2 (by rw [Bool.eq_false_iff]; intro e; exact hn (isK_iff.1 e).1))
        clear hn hnd
        go_wp2
        go_roundw
        case rel => exact ⟨i + 1, rfl, HLT.out, Lib.hid ⟨HP.out.1, HF.out⟩⟩
        case measure =>
          have := HLT.out
          show ((L.length : Int) - ((i : Int) + 1)).toNat < ((L.length : Int) - (i : Int)).toNat
          omega
    · have ei : i = L.length := by omega
      subst ei
      have HF := Lib.hid (show Ho.find L c s.data.toList = none by have := HP.out.2; rwa [List.take_length] at this)
      have hX2 : wr.heap[w.heap.size]? = some (.cells #[.string ⟨#[]⟩, .int .i64 0, .int .i64 0] 23 (0, 0)) := by rw [HP.out.1.heap]; exact HX1.out
      have c0 : wr.cell? ⟨w.heap.size, 0, none⟩ = some (.string ⟨#[]⟩) := by rw [cell_of_row wr _ 0 _ _ (0, 0) hX2]; rfl
      have c1 : wr.cell? ⟨w.heap.size, 1, none⟩ = some (.int .i64 0) := by rw [cell_of_row wr _ 1 _ _ (0, 0) hX2]; rfl
      have c2 : wr.cell? ⟨w.heap.size, 2, none⟩ = some (.int .i64 0) := by rw [cell_of_row wr _ 2 _ _ (0, 0) hX2]; rfl
      have f0 : wr.frozen? ⟨w.heap.size, 0, none⟩ = false := by simp [World.frozen?, hX2]
      have f1 : wr.frozen? ⟨w.heap.size, 1, none⟩ = false := by simp [World.frozen?, hX2]
      have f2 : wr.frozen? ⟨w.heap.size, 2, none⟩ = false := by simp [World.frozen?, hX2]
      have HBW := Lib.hid (HB1.out.trans (HP.out.1.below _))
      clear hX2 hi hlt' hAA hRr hbx
      go_wp2
      exact bodyPost_ret (v := .tuple #[.agg #[.string ⟨#[]⟩, .int .i64 0, .int .i64 0], .bool false]) (by simp [results, Tryd.results44, go_sem, c0, c1, c2]) rfl ⟨by rw [HF.out]; rfl, ((HBW.out.setCell (Nat.le_refl _) _).setCell (Nat.le_refl _) _).setCell (Nat.le_refl _) _⟩
end Go.Proofs.YtfdcponamkfcaaaDoor

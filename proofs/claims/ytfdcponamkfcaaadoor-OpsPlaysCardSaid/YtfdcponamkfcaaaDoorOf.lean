import Derived.Test.YtfdcponamkfcaaaDoorOa
import Derived.Test.YtfdcponamkfcaaaDoorOl
import Derived.Lib.LaidU8
import Derived.Deep.DeepCutAuto
import Derived.Deep.CutBlock
namespace Go.Proofs.YtfdcponamkfcaaaDoor
open Go.RowKit Ho Go.Maps
set_option linter.unusedVariables false
set_option linter.unusedSimpArgs false

/-! ### the table of blanks -/
def Tab (w : World) : Prop := Lib.TabIs Tryd.prog w "strings.asciiSpace" .u8 Lib.asciiSpaceTab
theorem tab_global : Tryd.prog.globalNamed "strings.asciiSpace" = some 0 := by kernel_rfl
theorem Tab.below {w w' : World} {C : Nat} (h : Tab w) (hb : Below C w w') (hC : 2 ≤ C) : Tab w' := by
  unfold Tab Lib.TabIs at h ⊢
  rw [← h]
  unfold World.var?
  rw [tab_global]
  simp only [Option.bind_some, hb.block 0 (show 0 < C by omega)]
/-! ### the words of the types -/
def typeWords : List (List UInt8) := [[102, 120], [102, 121], [120, 102, 120], [120, 102, 121], [121, 102, 120], [120, 102], [121, 102]]
def typesText : ByteArray := ⟨#[102, 120, 32, 102, 121, 32, 120, 102, 120, 32, 120, 102, 121, 32, 121, 102, 120, 32, 120, 102, 32, 121, 102]⟩
theorem types_fields : Lib.fields typesText.data.toList = typeWords := by decide
def strs (l : List (List UInt8)) : Array Value := (l.map fun x => Value.string ⟨x.toArray⟩).toArray
def WordsPost (w : World) (l : List (List UInt8)) (e : Ending) (w' : World) : Prop :=
  ∃ g c, e = .returned (.slice (some ⟨g, 0, none⟩) l.length c) ∧ w'.heap[g]? = some (.cells (strs l) 9 (0, 0)) ∧ l.length ≤ c ∧ Below w.heap.size w w'
theorem types_any (w : World) (hT : Tab w) : Calls Tryd.prog 32 #[.string typesText] w fun e w' => e = .returned (.slice (some ⟨w.heap.size, 0, none⟩) 7 7) ∧ w' = w.alloc (.cells (strs typeWords) 9) := by
  have h := Tryd.strings_Fields typesText w (by decide) (fun j b hj => by
    have hm : b ∈ typesText.data.toList := List.mem_of_getElem? hj
    exact (show ∀ b ∈ typesText.data.toList, b.toNat < 128 by decide) b hm) hT
  rw [types_fields] at h
  exact h
theorem str_beq2 (s t : ByteArray) {b : Bool} (h : decide (s.data.toList = t.data.toList) = b) : (s == t) = b := by
  rw [← h]
  show (s.data == t.data) = _
  rw [Bool.eq_iff_iff, beq_iff_eq, decide_eq_true_iff]
  exact ⟨fun h => by rw [h], fun h => Array.ext' h⟩
/-- the place of a word in a list, -1: it has none -/
def ix (l : List (List UInt8)) (x : List UInt8) : Int := if x ∈ l then (l.idxOf x : Int) else -1
theorem strs_cell {w : World} {g : Nat} {l : List (List UInt8)} (h : w.heap[g]? = some (.cells (strs l) 9 (0, 0))) {k : Nat} (hk : k < l.length) : w.cell? ⟨g, k, none⟩ = some (.string ⟨(l.getD k []).toArray⟩) := by
  rw [cell_of_row w g k _ _ (0, 0) h]
  simp [strs, List.getD_eq_getElem?_getD, List.getElem?_eq_getElem hk]
theorem ix_at {l : List (List UInt8)} {x : List UInt8} {k : Nat} (hk : k < l.length) (hx : l.getD k [] = x) (hn : x ∉ l.take k) : ix l x = k := by
  have he : l[k] = x := by rw [← hx, List.getD_eq_getElem?_getD, List.getElem?_eq_getElem hk]; rfl
  have hm : x ∈ l := by rw [← he]; exact List.getElem_mem hk
  rw [ix, if_pos hm]
  congr 1
  rw [List.idxOf, List.findIdx_eq hk]
  refine ⟨by simp [he], fun j hj => ?_⟩
  rw [beq_eq_false_iff_ne]
  intro e
  apply hn
  rw [← e, List.mem_take_iff_getElem]
  exact ⟨j, by omega, rfl⟩
theorem ix_none {l : List (List UInt8)} {x : List UInt8} (hn : x ∉ l) : ix l x = -1 := by rw [ix, if_neg hn]
theorem notin_succ {l : List (List UInt8)} {x : List UInt8} {k : Nat} (hk : k < l.length) (hx : ¬ l.getD k [] = x) (hn : x ∉ l.take k) : x ∉ l.take (k + 1) := by
  rw [List.take_succ_eq_append_getElem hk, List.mem_append]
  rintro (h | h)
  · exact hn h
  · have e : x = l[k] := by simpa using h
    exact hx (by rw [e, List.getD_eq_getElem?_getD, List.getElem?_eq_getElem hk]; rfl)
set_option maxRecDepth 100000 in
set_option maxHeartbeats 1000000 in
theorem Index_any {g c : Nat} {l : List (List UInt8)} {s : ByteArray} {w : World} (h : w.heap[g]? = some (.cells (strs l) 9 (0, 0))) (hl : l.length ≤ 1000000) (hc : l.length ≤ c) :
    Calls Tryd.prog 31 #[.slice (some ⟨g, 0, none⟩) l.length c, .string s] w fun e w' => e = .returned (.int .i64 (ix l s.data.toList)) ∧ w = w' := by
  have HH := Lib.hid h
  have HL := Lib.hid (And.intro hl hc)
  obtain ⟨n, hn⟩ : ∃ n, l.length = n := ⟨_, rfl⟩
  have HN := Lib.hid hn
  rw [hn] at hl
  rw [hn]
  have hnI : (n : Int) ≤ 1000000 := by omega
  clear h hn hl hc
  go_enter Tryd.func31, Tryd.ntmps31
  go_wp2
  go_loop [5, 8] (fun _ iv => ∃ k : Nat, k ≤ n ∧ iv = .int .i64 (k : Int) ∧ s.data.toList ∉ l.take k) (fun _ iv => n - (intOf iv).toNat)
  case atStart => exact ⟨0, Nat.zero_le _, rfl, by simp⟩
  case round =>
    obtain ⟨k, hk, rfl, hni⟩ := hrel
    by_cases hlt : k < n
    · have hcell := strs_cell HH.out (k := k) (by have := HN.out; omega)
      obtain ⟨y, hy⟩ : ∃ y : ByteArray, (⟨(l.getD k []).toArray⟩ : ByteArray) = y := ⟨_, rfl⟩
      rw [hy] at hcell
      have hyl : y.data.toList = l.getD k [] := by rw [← hy]
      have hltI : (k : Int) < (n : Int) := by omega
      have hkI : (0 : Int) ≤ (k : Int) := by omega
      by_cases he : l.getD k [] = s.data.toList
      · have e1 : (s == y) = true := str_beq2 s y (by rw [hyl, he]; simp)
        have e2 : (s.toList == y.toList) = true := by rw [ByteArray.toList_eq, ByteArray.toList_eq, hyl, he]; simp
        have HR := Lib.hid (ix_at (by have := HN.out; omega) he hni)
        clear hni hy hyl he
        go_wp2
        go_ret
        exact ⟨by rw [HR.out]; rfl, rfl⟩
      · have e1 : (s == y) = false := str_beq2 s y (by rw [hyl]; exact decide_eq_false (fun e => he e.symm))
        have e2 : (s.toList == y.toList) = false := by rw [ByteArray.toList_eq, ByteArray.toList_eq, hyl, beq_eq_false_iff_ne]; exact fun e => he e.symm
        have HR := Lib.hid (notin_succ (by have := HN.out; omega) he hni)
        clear hni hy hyl he
        go_wp2
        go_round
        case rel => exact ⟨k + 1, by omega, by go_num, HR.out⟩
        case measure => simp [intOf]; omega
    · obtain rfl : k = n := by omega
      have HR := Lib.hid (ix_none (l := l) (x := s.data.toList) (by rw [← HN.out, List.take_length] at hni; exact hni))
      clear hni hlt
      go_wp2
      go_ret
      exact ⟨by rw [HR.out]; rfl, rfl⟩
/-! ### Type and Word -/
theorem types_slot (W : World) : W.heap.size < (W.alloc (.cells (strs typeWords) 9)).heap.size := by simp
set_option maxRecDepth 100000 in
set_option maxHeartbeats 1000000 in
theorem Type_any (s : ByteArray) {w : World} (hT : Tab w) :
    Calls Tryd.prog 11 #[.string s] w fun e w' => e = .returned (.int .i64 (ix typeWords s.data.toList + 1)) ∧ Below w.heap.size w w' := by
  have HF := Lib.hid (show Calls Tryd.prog 32 #[.string ⟨#[102, 120, 32, 102, 121, 32, 120, 102, 120, 32, 120, 102, 121, 32, 121, 102, 120, 32, 120, 102, 32, 121, 102]⟩] w _ from types_any w hT)
  have hi := Index_any (l := typeWords) (s := s) (c := 7) (heap_alloc_new w (.cells (strs typeWords) 9)) (by decide) (by decide)
  have HI := Lib.hid (show Calls Tryd.prog 31 #[.slice (some ⟨w.heap.size, 0, none⟩) 7 7, .string s] _ _ from hi)
  obtain ⟨x, hx⟩ : ∃ x, ix typeWords s.data.toList = x := ⟨_, rfl⟩
  rw [hx] at HI
  have hb : -1 ≤ x ∧ x ≤ 7 := by
    rw [← hx, ix]
    split
    · have : typeWords.idxOf s.data.toList ≤ typeWords.length := List.idxOf_le_length
      have h7 : typeWords.length = 7 := rfl
      omega
    · omega
  have HX := Lib.hid hx
  obtain ⟨hb1, hb2⟩ := hb
  clear hT hi hx
  go_enter Tryd.func11, Tryd.ntmps11
  go_wp2_with fail
  (with_reducible refine HF.out.mono ?_)
  rintro e w1 ⟨rfl, rfl⟩
  go_wp2_with fail
  (with_reducible refine HI.out.mono ?_)
  rintro e w1 ⟨rfl, rfl⟩
  go_wp2
  go_ret
  exact ⟨by rw [HX.out]; rfl, (Below.refl _ _).alloc (Nat.le_refl _) _⟩
end Go.Proofs.YtfdcponamkfcaaaDoor

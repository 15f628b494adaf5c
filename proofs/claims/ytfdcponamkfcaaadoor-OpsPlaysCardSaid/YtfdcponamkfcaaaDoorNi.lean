import Derived.StillTailTactics
import Derived.Test.YtfdcponamkfcaaaDoorNh
import Derived.Test.YtfdcponamkfcaaaDoorOu
namespace Go.Proofs.YtfdcponamkfcaaaDoor
open Go.RowKit Ho Go.Maps Go.Shelf Go.Sort Hb
set_option linter.unusedVariables false
set_option linter.unusedSimpArgs false
/-! ### filled -/
def fill (L ls : List OpV) : List OpV := ls.foldl (fun L x => Ho.add L x.p x.t x.n) L
theorem fill_take (L : List OpV) {ls : List OpV} {i : Nat} (h : i < ls.length) : fill L (ls.take (i + 1)) = Ho.add (fill L (ls.take i)) (ls[i]).p (ls[i]).t (ls[i]).n := by
  rw [List.take_succ_eq_append_getElem h]
  unfold fill
  rw [List.foldl_append]
  rfl
def FilledPost (w : World) (n : Nat) (L : List OpV) (e : Ending) (w' : World) : Prop :=
  e = .returned (.pointer (some ⟨w.heap.size, 0, none⟩)) ∧ TabAt w' w.heap.size (w.heap.size + 1) (w.heap.size + 1 + 1) (w.heap.size + 1 + 1 + 1) ((rowsO 14).length + n) L ∧ Below w.heap.size w w'
/-- a slice of operators that came in -/
structure ArgO (w : World) (B : Nat) (A : Option Addr) (n c : Nat) (ls : List OpV) : Prop where
  len : ls.length = n
  cap : n ≤ c
  max : c ≤ maxLen
  rd : Rd w B A (flO ls)
  nm : ∀ x ∈ ls, x.n.length ≤ maxLen
theorem ArgO.below {w w' : World} {B n c : Nat} {A : Option Addr} {ls : List OpV} (h : ArgO w B A n c ls) (hb : Below B w w') : ArgO w' B A n c ls := ⟨h.len, h.cap, h.max, h.rd.below hb (Nat.le_refl _), h.nm⟩
theorem ArgO.at_ {w : World} {B n c : Nat} {A : Option Addr} {ls : List OpV} (h : ArgO w B A n c ls) (hn : 0 < n) : ∃ b o, A = some ⟨b, o, none⟩ ∧ b < B ∧ ∀ i (hi : i < ls.length), w.cell? ⟨b, o + i * 3, none⟩ = some (.string ⟨(ls[i]).n.toArray⟩) ∧ w.cell? ⟨b, o + i * 3 + 1, none⟩ = some (.int .i64 (ls[i]).t) ∧ w.cell? ⟨b, o + i * 3 + 2, none⟩ = some (.int .i64 (ls[i]).p) := by
  have hne : flO ls ≠ [] := fun e => by have := flO_length ls; rw [e, h.len] at this; simp at this; omega
  obtain ⟨b, o, hA, hb, hc⟩ := h.rd hne
  refine ⟨b, o, hA, hb, fun i hi => ?_⟩
  have e : ls.toArray[i]! = ls[i] := by rw [getElem!_pos ls.toArray i (by simpa using hi)]; simp
  have g0 := flO_get ls (i := i) (k := 0) hi (by omega)
  have g1 := flO_get ls (i := i) (k := 1) hi (by omega)
  have g2 := flO_get ls (i := i) (k := 2) hi (by omega)
  rw [e] at g0 g1 g2
  refine ⟨hc (i * 3) _ (by rw [Nat.add_zero] at g0; exact g0), ?_, ?_⟩
  · rw [Nat.add_assoc]; exact hc (i * 3 + 1) _ g1
  · rw [Nat.add_assoc]; exact hc (i * 3 + 2) _ g2
set_option maxRecDepth 100000 in
set_option maxHeartbeats 4000000 in
theorem filled_any {w : World} (hT : Tab w) (h2 : 2 ≤ w.heap.size) {A : Option Addr} {n c : Nat} {ls : List OpV} (hA : ArgO w w.heap.size A n c ls) (hn : n ≤ 4398046511000) :
    Calls Tryd.prog 15 #[.slice A n c] w (FilledPost w n (fill L0 ls)) := by
  have HN := Lib.hid (New_any hT h2)
  have HA := Lib.hid hA
  have HLen := Lib.hid rows_len
  have hnI : (n : Int) ≤ 4398046511000 := by omega
  have hcI := hA.cap
  clear hT h2 hA
  go_enter Tryd.func15, Tryd.ntmps15
  go_wp2_with fail
  (with_reducible refine HN.out.mono ?_)
  rintro ex w1 ⟨rfl, ht1, hb1⟩
  have H1 := Lib.hid (And.intro ht1 hb1)
  clear ht1 hb1
  go_wp2_with fail
  go_loopw [4] (fun vi wr => ∃ i : Nat, vi = .int .i64 (i : Int) ∧ i ≤ n ∧ Hid (TabAt wr w.heap.size (w.heap.size + 1) (w.heap.size + 1 + 1) (w.heap.size + 1 + 1 + 1) ((rowsO 14).length + i) (fill L0 (ls.take i)) ∧ Below w.heap.size w wr))
    (fun vi wr => ((n : Int) - intOf vi).toNat)
  case atStart => exact ⟨0, rfl, Nat.zero_le _, H1⟩
  case round =>
    obtain ⟨i, rfl, hi, HI⟩ := hrel
    by_cases hlt : i < n
    · have hltI : (i : Int) < (n : Int) := by omega
      have hi0 : (0 : Int) ≤ (i : Int) := by omega
      have hil : i < ls.length := by rw [HA.out.len]; exact hlt
      obtain ⟨b, o, hAA, hbB, hcells⟩ := (HA.out.below HI.out.2).at_ (by omega)
      obtain ⟨q0, q1, q2⟩ := hcells i hil
      subst hAA
      obtain ⟨x, hx⟩ : ∃ x, ls[i] = x := ⟨_, rfl⟩
      rw [hx] at q0 q1 q2
      have hxn : x.n.length ≤ maxLen := HA.out.nm x (by rw [← hx]; exact List.getElem_mem hil)
      have HF := Lib.hid (show fill L0 (ls.take (i + 1)) = Ho.add (fill L0 (ls.take i)) x.p x.t x.n by rw [fill_take L0 hil, hx])
      have HAdd := Lib.hid (Add_any (w := wr.drew) (p := x.p) (k := x.t) (s := ⟨x.n.toArray⟩) (HI.out.1.below' (below_drew (Below.refl _ _))) (show x.n.toArray.size ≤ maxLen by rw [List.size_toArray]; exact hxn) (by have := HLen.out; unfold maxLen; omega))
      have HLT := Lib.hid hlt
      clear hcells hil hlt hx hxn hi
      go_upto_region 5 with fail
      go_still_tail 16, (by kernel_rfl)
      change wpList _ _ _ _ _ wr.drew
      go_wp2_with ((go_at_call 17; (with_reducible refine HAdd.out.mono ?_); intro e w2 h2; have H2 := Lib.hid h2; clear h2; obtain ⟨rfl, _⟩ := H2.out))
      refine ⟨⟨i + 1, rfl, HLT.out, Lib.hid ⟨?_, ?_⟩⟩, ?_⟩
      · rw [HF.out]
        have h9 := H2.out.2.1
        exact h9
      · exact H2.out.below (below_drew HI.out.2) ⟨by omega, by omega, by omega⟩
      · have := HLT.out
        show ((n : Int) - ((i : Int) + 1)).toNat < ((n : Int) - (i : Int)).toNat
        omega
    · have e : i = n := by omega
      subst e
      have HE := Lib.hid (And.intro HI.out.1 HI.out.2)
      have HTk := Lib.hid (show ls.take i = ls by rw [← HA.out.len]; exact List.take_length)
      clear hlt hi
      go_wp2
      go_ret
      refine ⟨rfl, ?_, HE.out.2⟩
      have h9 := HE.out.1
      rw [HTk.out] at h9
      exact h9
end Go.Proofs.YtfdcponamkfcaaaDoor

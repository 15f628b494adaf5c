import Derived.Deep.RegionWith
import Derived.Deep.Cut
import Derived.Deep.RegionHeld3
import Derived.Test.YtfdcponamkfcaaaDoorNf
import Derived.Test.YtfdcponamkfcaaaDoorOb
namespace Go.Proofs.YtfdcponamkfcaaaDoor
open Go.RowKit Ho Go.Maps Go.Shelf Go.Sort Hb
set_option linter.unusedVariables false
set_option linter.unusedSimpArgs false
/-! ### Copy -/
abbrev CloneOk : Prop := ∀ (b : Nat) (es : Array MapEntry) (clock : Nat) (w : World), w.heap[b]? = some (.map es clock) →
    Calls Tryd.prog 36 #[.map (some b)] w fun e w' => e = .returned (.map (some w.heap.size)) ∧ w' = w.alloc (.map es clock)
/-- entries that are a class of the table L -/
def MapIs (es : Array MapEntry) (clock N c : Nat) (L : List OpV) : Prop := ∀ (w : World) (b : Nat), w.heap[b]? = some (.map es clock) → MapOf Tryd.prog 9 w b N c L
theorem clone_any (hclone : CloneOk) {w w1 : World} {b N c : Nat} {L : List OpV} (hm : MapOf Tryd.prog 9 w b N c L) (hw : Below w.heap.size w w1) :
    Calls Tryd.prog 36 #[.map (some b)] w1.drew fun e w' => e = .returned (.map (some w1.heap.size)) ∧ ∃ es clock, w' = w1.drew.alloc (.map es clock) ∧ MapIs es clock N c L := by
  have hlt := hm.lt
  obtain ⟨D, ⟨es, clock, hb, Ft, hs, hD⟩, hD2⟩ := hm
  refine (hclone b es clock w1.drew ((hw.block b hlt).trans hb)).mono fun e w' ⟨he, hw⟩ => ⟨he, es, clock, hw, ?_⟩
  intro w2 b2 h2
  exact ⟨D, ⟨es, clock, h2, Ft, hs, hD⟩, hD2⟩
theorem below_drew {B : Nat} {a w : World} (h : Below B a w) : Below B a w.drew := ⟨h.os, h.tape, h.output, h.size, h.block⟩
theorem four_new (w : World) (o0 o1 o2 o3 : Obj) : ((((w.alloc o0).alloc o1).alloc o2).alloc o3).heap[w.heap.size]? = some o0 ∧ ((((w.alloc o0).alloc o1).alloc o2).alloc o3).heap[w.heap.size + 1]? = some o1 ∧ ((((w.alloc o0).alloc o1).alloc o2).alloc o3).heap[w.heap.size + 2]? = some o2 ∧ ((((w.alloc o0).alloc o1).alloc o2).alloc o3).heap[w.heap.size + 3]? = some o3 ∧ Below w.heap.size w ((((w.alloc o0).alloc o1).alloc o2).alloc o3) := by
  have s1 : (w.alloc o0).heap.size = w.heap.size + 1 := by simp
  have s2 : ((w.alloc o0).alloc o1).heap.size = w.heap.size + 2 := by simp
  have s3 : (((w.alloc o0).alloc o1).alloc o2).heap.size = w.heap.size + 3 := by simp
  have a0 := World.alloc_heap_new w o0
  have a1 := World.alloc_heap_new (w.alloc o0) o1
  have a2 := World.alloc_heap_new ((w.alloc o0).alloc o1) o2
  have a3 := World.alloc_heap_new (((w.alloc o0).alloc o1).alloc o2) o3
  rw [s1] at a1
  rw [s2] at a2
  rw [s3] at a3
  refine ⟨?_, ?_, ?_, a3, ((((Below.refl _ w).alloc (Nat.le_refl _) o0).alloc (by omega) o1).alloc (by omega) o2).alloc (by omega) o3⟩
  · exact (Below.heap_alloc _ _ _ (by omega)).trans ((Below.heap_alloc _ _ _ (by omega)).trans ((Below.heap_alloc _ _ _ (by omega)).trans a0))
  · exact (Below.heap_alloc _ _ _ (by omega)).trans ((Below.heap_alloc _ _ _ (by omega)).trans a1)
  · exact (Below.heap_alloc _ _ _ (by omega)).trans a2
def CopyPost (w : World) (N : Nat) (L : List OpV) (e : Ending) (w' : World) : Prop :=
  e = .returned (.pointer (some ⟨w.heap.size, 0, none⟩)) ∧ TabAt w' w.heap.size (w.heap.size + 1) (w.heap.size + 2) (w.heap.size + 3) N L ∧ Below w.heap.size w w'
def cpCells (g j : Nat) : Array Value := #[if 0 < j then .map (some (g + 1)) else .map none, if 1 < j then .map (some (g + 2)) else .map none, if 2 < j then .map (some (g + 3)) else .map none]
set_option maxRecDepth 100000 in
set_option maxHeartbeats 4000000 in
theorem Copy_any (hclone : CloneOk) {w : World} {g b1 b2 b3 N : Nat} {L : List OpV} (hT : TabAt w g b1 b2 b3 N L) :
    Calls Tryd.prog 21 #[.pointer (some ⟨g, 0, none⟩)] w (CopyPost w N L) := by
  have hg := hT.lt
  have HQ := Lib.hid (fun w1 (hb : Below w.heap.size w w1) => tab_cells hT.1 hb)
  have HM1 := Lib.hid (fun w1 (hb : Below w.heap.size w w1) => clone_any hclone hT.2.1 hb)
  have HM2 := Lib.hid (fun w1 (hb : Below w.heap.size w w1) => clone_any hclone hT.2.2.1 hb)
  have HM3 := Lib.hid (fun w1 (hb : Below w.heap.size w w1) => clone_any hclone hT.2.2.2.1 hb)
  have hb1 : Below w.heap.size w (w.alloc (.cells #[.map none, .map none, .map none] 65)) := (Below.refl _ _).alloc (Nat.le_refl _) _
  obtain ⟨p0, p1, p2⟩ := HQ.out _ hb1
  have HB1 := Lib.hid hb1
  clear hT hb1
  go_enter Tryd.func21, Tryd.ntmps21
  go_wp2_with fail
  refine wp_loop_rounds 4 ?_
  rw [rounds_succ]
  go_upto_region 7 with fail
  go_region_with ((go_at_call 36; (with_reducible refine (HM1.out _ HB1.out).mono ?_); rintro e w2 ⟨rfl, es1, clock1, rfl, hm1⟩; have HN1 := Lib.hid hm1; clear hm1))
  clear p0 p1 p2
  have hb2 : Below w.heap.size w ((w.alloc (.cells #[.map (some (w.heap.size + 1)), .map none, .map none] 65)).alloc (.map es1 clock1)).drew := below_drew (((Below.refl _ _).alloc (Nat.le_refl _) _).alloc (by simp) _)
  obtain ⟨p0, p1, p2⟩ := HQ.out _ hb2
  have HB2 := Lib.hid hb2
  clear hb2
  go_wp2_with fail
  rw [rounds_succ]
  go_upto_region 7 with fail
  go_region_with ((go_at_call 36; (with_reducible refine (HM2.out _ HB2.out).mono ?_); rintro e w2 ⟨rfl, es2, clock2, rfl, hm2⟩; have HN2 := Lib.hid hm2; clear hm2))
  clear p0 p1 p2
  have hb3 : Below w.heap.size w ((((w.alloc (.cells #[.map (some (w.heap.size + 1)), .map (some (w.heap.size + 1 + 1)), .map none] 65)).alloc (.map es1 clock1)).alloc (.map es2 clock2)).drew.drew) := below_drew (below_drew ((((Below.refl _ _).alloc (Nat.le_refl _) _).alloc (by simp) _).alloc (by simp; omega) _))
  obtain ⟨p0, p1, p2⟩ := HQ.out _ hb3
  have HB3 := Lib.hid hb3
  clear hb3
  go_wp2_with fail
  rw [rounds_succ]
  go_upto_region 7 with fail
  go_region_with ((go_at_call 36; (with_reducible refine (HM3.out _ HB3.out).mono ?_); rintro e w2 ⟨rfl, es3, clock3, rfl, hm3⟩; have HN3 := Lib.hid hm3; clear hm3))
  clear p0 p1 p2
  go_wp2_with fail
  rw [rounds_succ]
  go_wp2
  go_ret
  obtain ⟨f0, f1, f2, f3, fb⟩ := four_new w (.cells #[.map (some (w.heap.size + 1)), .map (some (w.heap.size + 2)), .map (some (w.heap.size + 3))] 65) (.map es1 clock1) (.map es2 clock2) (.map es3 clock3)
  exact ⟨rfl, ⟨f0, HN1.out _ _ f1, HN2.out _ _ f2, HN3.out _ _ f3, by omega, by omega, by omega⟩, below_drew (below_drew (below_drew fb))⟩
end Go.Proofs.YtfdcponamkfcaaaDoor

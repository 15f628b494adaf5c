import Derived.Test.YtggdmhkdmkldoaaBh
namespace Go.Proofs.Ytggdmhkdmkldoaa
open Go.RowKit Hb

/-- too many bits -/
def lng (l : List Nat) : Bool := decide (4096 < blen (nv W l))
def LongPost (b : Bool) (w : World) (e : Ending) (w' : World) : Prop := e = .returned (.bool b) ∧ Below w.heap.size w w'

set_option maxHeartbeats 1000000 in
theorem long1_any {neg : Bool} {B g : Nat} {A : Option Addr} {l : List Nat} {n c : Nat} {w : World} (hs : SlU w B A n c l) (hn : n ≤ 67108864) (hB : B ≤ w.heap.size)
    (h0 : w.cell? ⟨g, 0, none⟩ = some (.bool neg)) (h1 : w.cell? ⟨g, 1, none⟩ = some (.slice A n c)) :
    Calls Try.prog 69 #[.slice (some ⟨g, 0, none⟩) 1 1] w (LongPost (lng l) w) := by
  have hS := Lib.hid (fun w1 (hb : Below w.heap.size w w1) => size_any (hs.below (C := w.heap.size) hb hB) hn)
  have HB := Lib.hid (Below.refl w.heap.size w)
  have hg := World.block_lt_of_cell? w _ h0
  obtain ⟨b1, k1⟩ : ∃ b1, lng l = b1 := ⟨_, rfl⟩
  rw [k1]
  unfold lng at k1
  generalize blen (nv W l) = x at *
  clear hs hn hB
  cases b1
  · have k2 : decide ((4096 : Int) < (x : Int)) = false := by have := of_decide_eq_false k1; exact decide_eq_false (by omega)
    clear k1
    go_enter Try.func69, Try.ntmps69
    go_wp2_with fail
    refine wp_loop_rounds 2 ?_
    rw [rounds_succ]
    go_wp2_with (go_at_call 75; refine (hS.out _ (HB.out.alloc (Nat.le_refl _) _)).mono ?_; rintro e w' ⟨rfl, rfl⟩)
    rw [rounds_succ]
    go_wp2_with fail
    go_ret
    exact ⟨rfl, HB.out.alloc (Nat.le_refl _) _⟩
  · have k2 : decide ((4096 : Int) < (x : Int)) = true := by have := of_decide_eq_true k1; exact decide_eq_true (by omega)
    clear k1
    go_enter Try.func69, Try.ntmps69
    go_wp2_with fail
    refine wp_loop_rounds 1 ?_
    rw [rounds_succ]
    go_wp2_with (go_at_call 75; refine (hS.out _ (HB.out.alloc (Nat.le_refl _) _)).mono ?_; rintro e w' ⟨rfl, rfl⟩)
    go_ret
    exact ⟨rfl, HB.out.alloc (Nat.le_refl _) _⟩

set_option maxHeartbeats 1000000 in
theorem long2_any {neg neg' : Bool} {B B' g : Nat} {A A' : Option Addr} {l m : List Nat} {n c n' c' : Nat} {w : World} (hs : SlU w B A n c l) (hn : n ≤ 67108864) (hB : B ≤ w.heap.size)
    (ht : SlU w B' A' n' c' m) (hn' : n' ≤ 67108864) (hB' : B' ≤ w.heap.size)
    (h0 : w.cell? ⟨g, 0, none⟩ = some (.bool neg)) (h1 : w.cell? ⟨g, 1, none⟩ = some (.slice A n c)) (h2 : w.cell? ⟨g, 2, none⟩ = some (.bool neg')) (h3 : w.cell? ⟨g, 3, none⟩ = some (.slice A' n' c')) :
    Calls Try.prog 69 #[.slice (some ⟨g, 0, none⟩) 2 2] w (LongPost (lng l || lng m) w) := by
  have hS := Lib.hid (fun w1 (hb : Below w.heap.size w w1) => size_any (hs.below (C := w.heap.size) hb hB) hn)
  have hT := Lib.hid (fun w1 (hb : Below w.heap.size w w1) => size_any (ht.below (C := w.heap.size) hb hB') hn')
  have HB := Lib.hid (Below.refl w.heap.size w)
  have hg := World.block_lt_of_cell? w _ h0
  obtain ⟨b1, k1⟩ : ∃ b1, lng l = b1 := ⟨_, rfl⟩
  obtain ⟨b2, k2⟩ : ∃ b2, lng m = b2 := ⟨_, rfl⟩
  rw [k1, k2]
  unfold lng at k1 k2
  generalize blen (nv W l) = x at *
  generalize blen (nv W m) = y at *
  clear hs hn hB ht hn' hB'
  cases b1
  · have k3 : decide ((4096 : Int) < (x : Int)) = false := by have := of_decide_eq_false k1; exact decide_eq_false (by omega)
    clear k1
    cases b2
    · have k4 : decide ((4096 : Int) < (y : Int)) = false := by have := of_decide_eq_false k2; exact decide_eq_false (by omega)
      clear k2
      go_enter Try.func69, Try.ntmps69
      go_wp2_with fail
      refine wp_loop_rounds 3 ?_
      rw [rounds_succ]
      go_wp2_with (go_at_call 75; refine (hS.out _ (HB.out.alloc (Nat.le_refl _) _)).mono ?_; rintro e w' ⟨rfl, rfl⟩)
      rw [rounds_succ]
      go_wp2_with (go_at_call 75; refine (hT.out _ ((HB.out.alloc (Nat.le_refl _) _).alloc (by simp) _)).mono ?_; rintro e w' ⟨rfl, rfl⟩)
      rw [rounds_succ]
      go_wp2_with fail
      go_ret
      exact ⟨rfl, (HB.out.alloc (Nat.le_refl _) _).alloc (by simp) _⟩
    · have k4 : decide ((4096 : Int) < (y : Int)) = true := by have := of_decide_eq_true k2; exact decide_eq_true (by omega)
      clear k2
      go_enter Try.func69, Try.ntmps69
      go_wp2_with fail
      refine wp_loop_rounds 2 ?_
      rw [rounds_succ]
      go_wp2_with (go_at_call 75; refine (hS.out _ (HB.out.alloc (Nat.le_refl _) _)).mono ?_; rintro e w' ⟨rfl, rfl⟩)
      rw [rounds_succ]
      go_wp2_with (go_at_call 75; refine (hT.out _ ((HB.out.alloc (Nat.le_refl _) _).alloc (by simp) _)).mono ?_; rintro e w' ⟨rfl, rfl⟩)
      go_ret
      exact ⟨rfl, (HB.out.alloc (Nat.le_refl _) _).alloc (by simp) _⟩
  · have k3 : decide ((4096 : Int) < (x : Int)) = true := by have := of_decide_eq_true k1; exact decide_eq_true (by omega)
    clear k1 k2
    go_enter Try.func69, Try.ntmps69
    go_wp2_with fail
    refine wp_loop_rounds 1 ?_
    rw [rounds_succ]
    go_wp2_with (go_at_call 75; refine (hS.out _ (HB.out.alloc (Nat.le_refl _) _)).mono ?_; rintro e w' ⟨rfl, rfl⟩)
    go_ret
    exact ⟨rfl, HB.out.alloc (Nat.le_refl _) _⟩
end Go.Proofs.Ytggdmhkdmkldoaa

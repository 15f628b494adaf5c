import Derived.WalkKit
import Derived.Lib.Hide
import Derived.Deep.QuietTactic
import Derived.BigQuiet
import Derived.StillTailTactics
import Derived.Test.YtfdcponamkfcaaaDoorOm
import Derived.Test.YtfdcponamkfcaaaDoorRows
namespace Go.Proofs.YtfdcponamkfcaaaDoor
open Go.RowKit Ho Go.Maps
set_option linter.unusedVariables false
set_option linter.unusedSimpArgs false

theorem lawS : Keyed Tryd.prog 9 := string_keyed Tryd.underlying9
theorem zeroO (w : World) : (zeroValue 23).run Tryd.prog w = .ok (opV zeroOp) w := by kernel_rfl
/-! ### class -/
theorem class_any (t : Int) (w : World) :
    Calls Tryd.prog 34 #[.int .i64 t] w fun e w' => e = .returned (.int .i64 ((cls t : Int) - 1)) ∧ w = w' := by
  by_cases h1 : t = 1
  · subst h1
    go_enter Tryd.func34, Tryd.ntmps34
    go_wp2
    go_ret
    exact ⟨rfl, rfl⟩
  by_cases h2 : t = 2
  · subst h2
    go_enter Tryd.func34, Tryd.ntmps34
    go_wp2
    go_ret
    exact ⟨rfl, rfl⟩
  by_cases h3 : t = 3
  · subst h3
    go_enter Tryd.func34, Tryd.ntmps34
    go_wp2
    go_ret
    exact ⟨rfl, rfl⟩
  by_cases h4 : t = 4
  · subst h4
    go_enter Tryd.func34, Tryd.ntmps34
    go_wp2
    go_ret
    exact ⟨rfl, rfl⟩
  by_cases h5 : t = 5
  · subst h5
    go_enter Tryd.func34, Tryd.ntmps34
    go_wp2
    go_ret
    exact ⟨rfl, rfl⟩
  by_cases h6 : t = 6
  · subst h6
    go_enter Tryd.func34, Tryd.ntmps34
    go_wp2
    go_ret
    exact ⟨rfl, rfl⟩
  by_cases h7 : t = 7
  · subst h7
    go_enter Tryd.func34, Tryd.ntmps34
    go_wp2
    go_ret
    exact ⟨rfl, rfl⟩
  have HC := Lib.hid (show cls t = 0 by unfold cls; rw [if_neg (by omega), if_neg (by omega), if_neg (by omega)])
  have d1 : (t == 1) = false := beq_eq_false_iff_ne.2 h1
  have d2 : (t == 2) = false := beq_eq_false_iff_ne.2 h2
  have d3 : (t == 3) = false := beq_eq_false_iff_ne.2 h3
  have d4 : (t == 4) = false := beq_eq_false_iff_ne.2 h4
  have d5 : (t == 5) = false := beq_eq_false_iff_ne.2 h5
  have d6 : (t == 6) = false := beq_eq_false_iff_ne.2 h6
  have d7 : (t == 7) = false := beq_eq_false_iff_ne.2 h7
  clear h1 h2 h3 h4 h5 h6 h7
  go_enter Tryd.func34, Tryd.ntmps34
  go_wp2
  go_ret
  exact ⟨by rw [HC.out]; rfl, rfl⟩
/-! ### a table in memory -/
/-- block g is the table L: three maps, of at most N stores each -/
def TabAt (w : World) (g b1 b2 b3 N : Nat) (L : List OpV) : Prop :=
  w.heap[g]? = some (.cells #[.map (some b1), .map (some b2), .map (some b3)] 65 (0, 0)) ∧
    MapOf Tryd.prog 9 w b1 N 1 L ∧ MapOf Tryd.prog 9 w b2 N 2 L ∧ MapOf Tryd.prog 9 w b3 N 3 L ∧ b1 ≠ b2 ∧ b1 ≠ b3 ∧ b2 ≠ b3
def FindPost (w : World) (x : Option OpV) (e : Ending) (w' : World) : Prop := e = .returned (.tuple #[opV (x.getD zeroOp), .bool x.isSome]) ∧ Below w.heap.size w w'
theorem tab_cells {w w' : World} {g : Nat} {b1 b2 b3 : Nat} (h : w.heap[g]? = some (.cells #[.map (some b1), .map (some b2), .map (some b3)] 65 (0, 0))) (hb : Below w.heap.size w w') :
    w'.cell? ⟨g, 0, none⟩ = some (.map (some b1)) ∧ w'.cell? ⟨g, 1, none⟩ = some (.map (some b2)) ∧ w'.cell? ⟨g, 2, none⟩ = some (.map (some b3)) := by
  have hlt : g < w.heap.size := (Array.getElem?_eq_some_iff.1 h).1
  have h2 := (hb.block g hlt).trans h
  exact ⟨by rw [cell_of_row w' g 0 _ _ (0, 0) h2]; rfl, by rw [cell_of_row w' g 1 _ _ (0, 0) h2]; rfl, by rw [cell_of_row w' g 2 _ _ (0, 0) h2]; rfl⟩
set_option maxRecDepth 100000 in
set_option maxHeartbeats 1000000 in
theorem find_any {w : World} {g b1 b2 b3 N : Nat} {L : List OpV} (h : TabAt w g b1 b2 b3 N L) {c : Nat} (hc : c < 3) {s : ByteArray} (hs : s.size ≤ maxLen) :
    Calls Tryd.prog 35 #[.pointer (some ⟨g, 0, none⟩), .int .i64 (c : Int), .string s] w (FindPost w (Ho.find L (c + 1) s.data.toList)) := by
  obtain ⟨h0, m1, m2, m3, _⟩ := h
  have hb1 : Below w.heap.size w (w.alloc (.cells #[.string ⟨#[]⟩, .int .i64 0, .int .i64 0] 23)) := (Below.refl _ _).alloc (Nat.le_refl _) _
  have hcells := tab_cells h0 hb1
  have hl1 := (m1.alloc (.cells #[.string ⟨#[]⟩, .int .i64 0, .int .i64 0] 23)).look lawS Tryd.underlying9 Tryd.underlying62 (zeroO _) hs
  have hl2 := (m2.alloc (.cells #[.string ⟨#[]⟩, .int .i64 0, .int .i64 0] 23)).look lawS Tryd.underlying9 Tryd.underlying62 (zeroO _) hs
  have hl3 := (m3.alloc (.cells #[.string ⟨#[]⟩, .int .i64 0, .int .i64 0] 23)).look lawS Tryd.underlying9 Tryd.underlying62 (zeroO _) hs
  have HB := Lib.hid hb1
  clear h0 m1 m2 m3 hb1 hs
  obtain ⟨q0, q1, q2⟩ := hcells
  have key : ∀ (b : Nat) (r : Option OpV), (Instr.lookup 62 (.map (some b)) (.string s) true).run Tryd.prog (w.alloc (.cells #[.string ⟨#[]⟩, .int .i64 0, .int .i64 0] 23)) = .ok (.tuple #[opV (r.getD zeroOp), .bool r.isSome]) (w.alloc (.cells #[.string ⟨#[]⟩, .int .i64 0, .int .i64 0] 23)) →
      (w.alloc (.cells #[.string ⟨#[]⟩, .int .i64 0, .int .i64 0] 23)).cell? ⟨g, c, none⟩ = some (.map (some b)) →
      Calls Tryd.prog 35 #[.pointer (some ⟨g, 0, none⟩), .int .i64 (c : Int), .string s] w (FindPost w r) := by
    intro b r hl hcell
    obtain ⟨x, hx⟩ : ∃ x, r.getD zeroOp = x := ⟨_, rfl⟩
    obtain ⟨ok, hok⟩ : ∃ k, r.isSome = k := ⟨_, rfl⟩
    rw [hx, hok] at hl
    have HP := Lib.hid (And.intro hx hok)
    obtain ⟨nm, hnm⟩ : ∃ nm : ByteArray, (⟨x.n.toArray⟩ : ByteArray) = nm := ⟨_, rfl⟩
    obtain ⟨xt, hxt⟩ : ∃ t, x.t = t := ⟨_, rfl⟩
    obtain ⟨xp, hxp⟩ : ∃ t, x.p = t := ⟨_, rfl⟩
    have HX := Lib.hid (show opV x = .agg #[.string nm, .int .i64 xt, .int .i64 xp] by rw [opV, hnm, hxt, hxp])
    rw [HX.out] at hl
    clear hx hok hnm hxt hxp q0 q1 q2 hl1 hl2 hl3
    have hc0 : (0 : Int) ≤ (c : Int) := by omega
    have hc3 : (c : Int) < 3 := by omega
    go_enter Tryd.func35, Tryd.ntmps35
    go_wp2
    exact bodyPost_ret (v := .tuple #[.agg #[.string nm, .int .i64 xt, .int .i64 xp], .bool ok]) (by simp [results, Tryd.results35, go_sem]) rfl ⟨by rw [HP.out.1, HP.out.2, HX.out], ((Below.refl _ _).alloc (Nat.le_refl _) _).alloc (by simp) _⟩
  have h012 : c = 0 ∨ c = 1 ∨ c = 2 := by omega
  rcases h012 with rfl | rfl | rfl
  · exact key b1 _ hl1 q0
  · exact key b2 _ hl2 q1
  · exact key b3 _ hl3 q2
end Go.Proofs.YtfdcponamkfcaaaDoor

import Derived.Test.YtfdcponamkfcaaaDoorNy
namespace Go.Proofs.YtfdcponamkfcaaaDoor
open Go.RowKit Ho Go.Maps Go.Shelf Go.Sort Hb
set_option linter.unusedVariables false
set_option linter.unusedSimpArgs false
/-! ### the reference's Copy -/
theorem RTab.news {w : World} {h : Nat} {L : List OpV} (hh : RTab w h L) (hn : 0 < L.length) : ∃ s c, Boxed w h 77 (.slice (some ⟨s, 0, none⟩) L.length c) ∧ L.length ≤ c ∧ s < w.heap.size ∧ ∀ j u, (flO L)[j]? = some u → w.cell? ((⟨s, 0, none⟩ : Addr).add j) = some u := by
  obtain ⟨A, c, h1, h2⟩ := hh
  have hc := owns_cap h2
  rcases h2.2 with ⟨h3, h4⟩ | ⟨g, cap, cur, h3, _, h5, _⟩
  · omega
  · injection h3 with a _ _
    subst a
    exact ⟨g, c, h1, hc, (Array.getElem?_eq_some_iff.1 h5).1, fun j u hj => World.ownsRow.cells h2 (g := g) rfl j u hj⟩
theorem owns_empty (w : World) (B : Nat) (hB : B ≤ w.heap.size) : (w.alloc (.cells #[] 23)).ownsRow B 23 3 (.slice (some ⟨w.heap.size, 0, none⟩) 0 0) 0 (flO []) :=
  ⟨rfl, .inr ⟨w.heap.size, 0, #[], rfl, hB, World.alloc_heap_new w _, Nat.le_refl _, Nat.zero_le _, rfl, rfl⟩⟩
theorem owns_base0 {w : World} {B k c : Nat} {A : Option Addr} {xs : List Value} (h : w.ownsRow B 23 3 (.slice A k c) k xs) : w.ownsRow 0 23 3 (.slice A k c) k xs := by
  refine ⟨h.1, ?_⟩
  rcases h.2 with h2 | ⟨g, cap, cur, h2, h3, h4⟩
  · exact .inl h2
  · exact .inr ⟨g, cap, cur, h2, Nat.zero_le _, h4⟩
set_option maxRecDepth 100000 in
set_option maxHeartbeats 4000000 in
theorem rcopy_any {w : World} {h : Nat} {L : List OpV} (hR : RTab w h L) (hn : 0 < L.length) (hL : L.length ≤ 4398046511101) :
    Calls Tryd.prog 29 #[.pointer (some ⟨h, 0, none⟩)] w fun e w' => ∃ h', e = .returned (.pointer (some ⟨h', 0, none⟩)) ∧ RTab w' h' L ∧ w.heap.size ≤ h' ∧ Below w.heap.size w w' := by
  obtain ⟨sb, c, hbx, hcap, hsb, hnews⟩ := hR.news hn
  have hb1 : Below w.heap.size w (w.alloc (.cells #[] 23)) := (Below.refl _ _).alloc (Nat.le_refl _) _
  have hbx1 : Boxed (w.alloc (.cells #[] 23)) h _ _ := hbx.alloc _
  have hbc := hbx1.cell
  have HE := Lib.hid (owns_empty w w.heap.size (Nat.le_refl _))
  have HB1 := Lib.hid hb1
  have HNw := Lib.hid (show ∀ j u, (flO L)[j]? = some u → (w.alloc (.cells #[] 23)).cell? ((⟨sb, 0, none⟩ : Addr).add j) = some u from fun j u hj => by
    have h9 := hnews j u hj
    rw [add_zero'] at h9 ⊢
    exact (World.cell?_of_block (a := ⟨sb, j, none⟩) (hb1.block sb hsb)).trans h9)
  clear hR hbx hbx1 hnews hb1
  go_enter Tryd.func29, Tryd.ntmps29
  go_wp2_with (at_builtin; refine wpList_append_ops rfl _ _ rfl w.heap.size (some ⟨w.heap.size, 0, none⟩) 0 0 [] rfl HE.out ⟨sb, 0, none⟩ L.length c L rfl rfl HNw.out (by omega) (by simp) ?_; intro A3 c3 w3 ho3 hb3 hg3; have HO3 := Lib.hid ho3; have HB3 := Lib.hid (HB1.out.trans hb3); clear ho3 hb3 hg3)
  go_ret
  have ho := HO3.out
  rw [Nat.zero_add, List.nil_append] at ho
  refine ⟨w3.heap.size, rfl, ⟨A3, c3, ?_, owns_base0 (ho.alloc _)⟩, HB3.out.size, HB3.out.alloc HB3.out.size _⟩
  have h9 := Boxed.new w3 77 (.slice A3 (0 + L.length) c3)
  rw [Nat.zero_add] at h9
  first
    | exact h9
    | (rw [Nat.zero_add]; exact h9)
end Go.Proofs.YtfdcponamkfcaaaDoor

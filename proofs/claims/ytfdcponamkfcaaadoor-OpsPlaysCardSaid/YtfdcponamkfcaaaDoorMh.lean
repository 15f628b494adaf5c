import Derived.Test.YtfdcponamkfcaaaDoorMf
import Derived.Test.YtfdcponamkfcaaaDoorMd
import Derived.Test.YtfdcponamkfcaaaDoorMe
import Derived.Test.YtfdcponamkfcaaaDoorMc
import Derived.Test.YtfdcponamkfcaaaDoorMg
import Derived.Test.YtfdcponamkfcaaaDoorNk
namespace Go.Proofs.YtfdcponamkfcaaaDoor
open Go.RowKit Ho Go.Maps Go.Shelf Go.Sort Hb
set_option linter.unusedVariables false
set_option linter.unusedSimpArgs false
/-! ### OpsPlays: three tables beside their references -/
def pCells (g : Nat → Nat) : Array Value := #[.pointer (some ⟨g 0, 0, none⟩), .pointer (some ⟨g 1, 0, none⟩), .pointer (some ⟨g 2, 0, none⟩)]
theorem pCells_get (g : Nat → Nat) {k : Nat} (hk : k < 3) : (pCells g)[k]? = some (.pointer (some ⟨g k, 0, none⟩)) := by
  have h3 : k = 0 ∨ k = 1 ∨ k = 2 := by omega
  rcases h3 with rfl | rfl | rfl <;> rfl
def upd {α : Type} (f : Nat → α) (k : Nat) (v : α) (x : Nat) : α := if x = k then v else f x
theorem upd_same {α : Type} (f : Nat → α) (k : Nat) (v : α) : upd f k v k = v := by unfold upd; rw [if_pos rfl]
theorem upd_other {α : Type} (f : Nat → α) {k x : Nat} (v : α) (h : x ≠ k) : upd f k v x = f x := by unfold upd; rw [if_neg h]
theorem pCells_set (g : Nat → Nat) {k : Nat} (hk : k < 3) (b : Nat) : (pCells g).setIfInBounds k (.pointer (some ⟨b, 0, none⟩)) = pCells (upd g k b) := by
  have h3 : k = 0 ∨ k = 1 ∨ k = 2 := by omega
  rcases h3 with rfl | rfl | rfl <;> rfl
theorem grownBy_cell (W : World) (b i : Nat) (v : Value) : W.grownBy (W.setCell ⟨b, i, none⟩ v) (some b) :=
  ⟨rfl, rfl, rfl, by simp [World.setCell], fun k _ hk => Below.heap_setCell _ _ _ k (fun e => hk (by rw [e]))⟩
theorem set_row {W : World} {b : Nat} {cs : Array Value} {t : TypeId} {q : Nat × Nat} (h : W.heap[b]? = some (.cells cs t q)) (i : Nat) (v : Value) : (W.setCell ⟨b, i, none⟩ v).heap[b]? = some (.cells (cs.setIfInBounds i v) t q) := by
  simp [World.setCell, Array.getElem?_modify, h]
structure PlI (w : World) (gO gR N : Nat) (g h : Nat → Nat) (L M : Nat → List OpV) (W : World) : Prop where
  o : W.heap[gO]? = some (.cells (pCells g) 31 (0, 0))
  r : W.heap[gR]? = some (.cells (pCells h) 48 (0, 0))
  tab : ∀ k, k < 3 → TabAt W (g k) (g k + 1) (g k + 2) (g k + 3) N (L k)
  rt : ∀ k, k < 3 → RTab W (h k) (M k)
  apart : ∀ j k, j < 3 → k < 3 → j ≠ k → g j + 3 < g k ∨ g k + 3 < g j
  rapart : ∀ j k, j < 3 → k < 3 → j ≠ k → h j ≠ h k
  ge : ∀ k, k < 3 → w.heap.size ≤ g k ∧ w.heap.size ≤ h k
  lo : w.heap.size ≤ gO ∧ w.heap.size ≤ gR
  bel : Below w.heap.size w W
section
variable {w W W' : World} {gO gR N : Nat} {g h : Nat → Nat} {L M : Nat → List OpV}
theorem PlI.below (H : PlI w gO gR N g h L M W) (hb : Below W.heap.size W W') : PlI w gO gR N g h L M W' :=
  ⟨(hb.block _ (Array.getElem?_eq_some_iff.1 H.o).1).trans H.o, (hb.block _ (Array.getElem?_eq_some_iff.1 H.r).1).trans H.r, fun k hk => (H.tab k hk).below' hb, fun k hk => (H.rt k hk).below hb, H.apart, H.rapart, H.ge, H.lo, H.bel.trans (hb.mono H.bel.size)⟩
theorem RTab.same {b : Nat} {l : List OpV} (hR : RTab W b l) (hs : ∀ (p : Nat) (xs : Array Value) (t : TypeId) (k : Nat × Nat), W.heap[p]? = some (.cells xs t k) → W'.heap[p]? = some (.cells xs t k)) : RTab W' b l := by
  obtain ⟨A, c, h1, h2⟩ := hR
  refine ⟨A, c, hs _ _ _ _ h1, h2.1, ?_⟩
  rcases h2.2 with h3 | ⟨q, cap, cur, h3, h4, h5, h6⟩
  · exact .inl h3
  · exact .inr ⟨q, cap, cur, h3, h4, hs _ _ _ _ h5, h6⟩
theorem PlI.cellO (H : PlI w gO gR N g h L M W) {k : Nat} (hk : k < 3) : W.cell? ⟨gO, k, none⟩ = some (.pointer (some ⟨g k, 0, none⟩)) := by
  rw [cell_of_row W gO k _ _ (0, 0) H.o, pCells_get g hk]
theorem PlI.cellR (H : PlI w gO gR N g h L M W) {k : Nat} (hk : k < 3) : W.cell? ⟨gR, k, none⟩ = some (.pointer (some ⟨h k, 0, none⟩)) := by
  rw [cell_of_row W gR k _ _ (0, 0) H.r, pCells_get h hk]
/-- the program's Add of one table -/
theorem PlI.add {k : Nat} {l : List OpV} {co : Int} {e : Ending} (H : PlI w gO gR N g h L M W) (hk : k < 3) (hA : AddPost W (g k) (g k + 1) (g k + 2) (g k + 3) N (L k) l co e W') : PlI w gO gR (N + 1) g h (upd L k l) M W' := by
  have hA2 := hA
  obtain ⟨_, ht, b, hb, hg⟩ := hA2
  have hb3 : g k < b ∧ b ≤ g k + 3 := by rcases hb with rfl | rfl | rfl <;> omega
  have hcs : ∀ (p : Nat) (xs : Array Value) (t : TypeId) (q : Nat × Nat), W.heap[p]? = some (.cells xs t q) → W'.heap[p]? = some (.cells xs t q) := fun p xs t q hp => hA.cells (H.tab k hk) hp
  refine ⟨hcs _ _ _ _ H.o, hcs _ _ _ _ H.r, fun j hj => ?_, fun j hj => (H.rt j hj).same hcs, H.apart, H.rapart, H.ge, H.lo, hA.below H.bel ?_⟩
  · by_cases e : j = k
    · subst e
      rw [upd_same]
      exact ht
    · rw [upd_other _ _ e]
      have := H.apart j k hj hk e
      exact ((H.tab j hj).grown hg ⟨by omega, by omega, by omega, by omega⟩).more
  · have := (H.ge k hk).1
    exact ⟨by omega, by omega, by omega⟩
theorem cells_apart {W : World} {p q : Nat} {xs ys : Array Value} {t u : TypeId} {j k : Nat × Nat} (hp : W.heap[p]? = some (.cells xs t j)) (hq : W.heap[q]? = some (.cells ys u k)) (h : t ≠ u) : p ≠ q := fun e => by
  rw [e, hq] at hp
  cases hp
  exact h rfl
theorem tO_R : 65 ≠ 77 := by decide
theorem tPO_R : 31 ≠ 77 := by decide
theorem tPR_R : 48 ≠ 77 := by decide
theorem tO_PO : 65 ≠ 31 := by decide
theorem tO_PR : 65 ≠ 48 := by decide
theorem tR_PO : 77 ≠ 31 := by decide
theorem tR_PR : 77 ≠ 48 := by decide
theorem tPO_PR : 31 ≠ 48 := by decide
theorem tPR_PO : 48 ≠ 31 := by decide
theorem tOp_R : 23 ≠ 77 := by decide
theorem tOp_PO : 23 ≠ 31 := by decide
theorem tOp_PR : 23 ≠ 48 := by decide
theorem PlI.box (H : PlI w gO gR N g h L M W) {k : Nat} (hk : k < 3) : ∃ v, Boxed W (h k) 77 v := by
  obtain ⟨A, c, h1, _⟩ := H.rt k hk
  exact ⟨_, h1⟩
/-- the reference's Add of one table -/
theorem PlI.radd {k : Nat} {l : List OpV} {co : Int} {e : Ending} (H : PlI w gO gR N g h L M W) (hk : k < 3) (hA : rAddPost W (h k) l co e W') : PlI w gO gR N g h L (upd M k l) W' := by
  obtain ⟨_, ht, hg⟩ := hA
  obtain ⟨v, hbx⟩ := H.box hk
  have hbx' : W.heap[h k]? = some (.cells #[v] 77 (0, 0)) := hbx
  refine ⟨(hg.block gO (Array.getElem?_eq_some_iff.1 H.o).1 (fun e => cells_apart H.o hbx' tPO_R (Option.some.inj e))).trans H.o, (hg.block gR (Array.getElem?_eq_some_iff.1 H.r).1 (fun e => cells_apart H.r hbx' tPR_R (Option.some.inj e))).trans H.r, fun j hj => ?_, fun j hj => ?_, H.apart, H.rapart, H.ge, H.lo, H.bel.grown hg H.bel.size (fun q e => by cases e; exact (H.ge k hk).2)⟩
  · have h9 := (H.tab j hj).ne hbx'
    exact (H.tab j hj).grown hg ⟨cells_apart (H.tab j hj).1 hbx' tO_R, h9.1, h9.2.1, h9.2.2⟩
  · by_cases e : j = k
    · subst e
      rw [upd_same]
      exact ht
    · rw [upd_other _ _ e]
      exact (H.rt j hj).grown hg (H.rapart j k hj hk e) (fun cs q hq => cells_apart hq hbx' tOp_R rfl)
/-- a cell of the array of tables is set to a new table -/
theorem PlI.storeO {k b : Nat} {l : List OpV} (H : PlI w gO gR N g h L M W) (hk : k < 3) (hT : TabAt W b (b + 1) (b + 2) (b + 3) N l) (hb : w.heap.size ≤ b) (hne : ∀ j, j < 3 → g j + 3 < b) :
    PlI w gO gR N (upd g k b) h (upd L k l) M (W.setCell ⟨gO, k, none⟩ (.pointer (some ⟨b, 0, none⟩))) := by
  have hg : W.grownBy (W.setCell ⟨gO, k, none⟩ (.pointer (some ⟨b, 0, none⟩))) (some gO) := grownBy_cell W gO k _
  refine ⟨?_, (hg.block gR (Array.getElem?_eq_some_iff.1 H.r).1 (fun e => cells_apart H.r H.o tPR_PO (Option.some.inj e))).trans H.r, fun j hj => ?_, fun j hj => ?_, fun i j hi hj hij => ?_, H.rapart, fun j hj => ?_, H.lo, H.bel.setCell H.lo.1 _⟩
  · rw [← pCells_set g hk]
    exact set_row H.o k _
  · by_cases e : j = k
    · subst e
      rw [upd_same, upd_same]
      have h9 := hT.ne H.o
      exact hT.grown hg ⟨cells_apart hT.1 H.o tO_PO, h9.1, h9.2.1, h9.2.2⟩
    · rw [upd_other _ _ e, upd_other _ _ e]
      have h9 := (H.tab j hj).ne H.o
      exact (H.tab j hj).grown hg ⟨cells_apart (H.tab j hj).1 H.o tO_PO, h9.1, h9.2.1, h9.2.2⟩
  · obtain ⟨v, hbx⟩ := H.box hj
    exact (H.rt j hj).grown hg (cells_apart hbx H.o tR_PO) (fun cs q hq => cells_apart hq H.o tOp_PO rfl)
  · by_cases e1 : i = k
    · subst e1
      rw [upd_same, upd_other _ _ (Ne.symm hij)]
      exact .inr (hne j hj)
    · by_cases e2 : j = k
      · subst e2
        rw [upd_same, upd_other _ _ e1]
        exact .inl (hne i hi)
      · rw [upd_other _ _ e1, upd_other _ _ e2]
        exact H.apart i j hi hj hij
  · refine ⟨?_, (H.ge j hj).2⟩
    by_cases e : j = k
    · subst e; rw [upd_same]; exact hb
    · rw [upd_other _ _ e]; exact (H.ge j hj).1
/-- a cell of the array of references is set to a new one -/
theorem PlI.storeR {k b : Nat} {l : List OpV} (H : PlI w gO gR N g h L M W) (hk : k < 3) (hT : RTab W b l) (hb : w.heap.size ≤ b) (hne : ∀ j, j < 3 → h j ≠ b) :
    PlI w gO gR N g (upd h k b) L (upd M k l) (W.setCell ⟨gR, k, none⟩ (.pointer (some ⟨b, 0, none⟩))) := by
  have hg : W.grownBy (W.setCell ⟨gR, k, none⟩ (.pointer (some ⟨b, 0, none⟩))) (some gR) := grownBy_cell W gR k _
  refine ⟨(hg.block gO (Array.getElem?_eq_some_iff.1 H.o).1 (fun e => cells_apart H.o H.r tPO_PR (Option.some.inj e))).trans H.o, ?_, fun j hj => ?_, fun j hj => ?_, H.apart, fun i j hi hj hij => ?_, fun j hj => ?_, H.lo, H.bel.setCell H.lo.2 _⟩
  · rw [← pCells_set h hk]
    exact set_row H.r k _
  · have h9 := (H.tab j hj).ne H.r
    exact (H.tab j hj).grown hg ⟨cells_apart (H.tab j hj).1 H.r tO_PR, h9.1, h9.2.1, h9.2.2⟩
  · by_cases e : j = k
    · subst e
      rw [upd_same, upd_same]
      have hT2 := hT
      obtain ⟨A, c, hbx, _⟩ := hT2
      exact RTab.grown hT hg (cells_apart hbx H.r tR_PR) (fun cs q hq => cells_apart hq H.r tOp_PR rfl)
    · rw [upd_other _ _ e, upd_other _ _ e]
      obtain ⟨v, hbx⟩ := H.box hj
      exact (H.rt j hj).grown hg (cells_apart hbx H.r tR_PR) (fun cs q hq => cells_apart hq H.r tOp_PR rfl)
  · by_cases e1 : i = k
    · subst e1
      rw [upd_same, upd_other _ _ (Ne.symm hij)]
      exact fun e => hne j hj e.symm
    · by_cases e2 : j = k
      · subst e2
        rw [upd_same, upd_other _ _ e1]
        exact hne i hi
      · rw [upd_other _ _ e1, upd_other _ _ e2]
        exact H.rapart i j hi hj hij
  · refine ⟨(H.ge j hj).1, ?_⟩
    by_cases e : j = k
    · subst e; rw [upd_same]; exact hb
    · rw [upd_other _ _ e]; exact (H.ge j hj).2
end
/-- the lists -/
def LInv (N : Nat) (L : Nat → List OpV) : Prop := ∀ k, k < 3 → Inv (L k) ∧ (L k).length ≤ 100 + N
theorem LInv.pos {N : Nat} {L : Nat → List OpV} (h : LInv N L) {k : Nat} (hk : k < 3) : 0 < (L k).length := List.length_pos_iff.2 (h k hk).1.ne
theorem LInv.add {N : Nat} {L : Nat → List OpV} (h : LInv N L) {k : Nat} (hk : k < 3) (p t : Int) (n : List UInt8) : LInv (N + 1) (upd L k (Ho.add (L k) p t n)) := fun j hj => by
  by_cases e : j = k
  · subst e
    rw [upd_same]
    have h1 := add_len (L j) p t n
    have h2 := (h j hj).2
    exact ⟨(h j hj).1.add p t n, by omega⟩
  · rw [upd_other _ _ e]
    have h2 := (h j hj).2
    exact ⟨(h j hj).1, by omega⟩
theorem LInv.more {N : Nat} {L : Nat → List OpV} (h : LInv N L) : LInv (N + 1) L := fun j hj => ⟨(h j hj).1, by have := (h j hj).2; omega⟩
theorem LInv.put {N : Nat} {L : Nat → List OpV} (h : LInv N L) {k j : Nat} (hj : j < 3) : LInv N (upd L k (L j)) := fun i hi => by
  by_cases e : i = k
  · subst e
    rw [upd_same]
    exact h j hj
  · rw [upd_other _ _ e]
    exact h i hi
theorem PlI.more {w W : World} {gO gR N : Nat} {g h : Nat → Nat} {L M : Nat → List OpV} (H : PlI w gO gR N g h L M W) : PlI w gO gR (N + 1) g h L M W :=
  ⟨H.o, H.r, fun k hk => (H.tab k hk).more, H.rt, H.apart, H.rapart, H.ge, H.lo, H.bel⟩
end Go.Proofs.YtfdcponamkfcaaaDoor

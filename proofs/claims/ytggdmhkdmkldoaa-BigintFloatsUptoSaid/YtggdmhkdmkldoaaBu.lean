import Derived.Test.YtggdmhkdmkldoaaBt
namespace Go.Proofs.Ytggdmhkdmkldoaa
open Go.RowKit Hb

/-- the block of an integer's limbs -/
def MBlk (v : Value) (g : Nat) : Prop := ∃ b o n c, v = .agg #[b, .slice (some ⟨g, o, none⟩) n c]
def Apart (u v : Value) : Prop := ∀ g, MBlk u g → MBlk v g → False
def QRPost (w : World) (z1 z2 : Int) (code : Int) (e : Ending) (w' : World) : Prop :=
  ∃ v1 v2, e = .returned (.tuple #[v1, v2, .int .i64 code]) ∧ (code = 0 → ResI w' w.heap.size v1 z1 ∧ ResI w' w.heap.size v2 z2 ∧ Apart v1 v2) ∧ (code ≠ 0 → v1 = zeroV ∧ v2 = zeroV) ∧ Below w.heap.size w w'
theorem QRPost.bad {w w' : World} {z1 z2 co k : Int} (hco : co = k) (hk : k ≠ 0) (hb : Below w.heap.size w w') : QRPost w z1 z2 co (.returned (.tuple #[zeroV, zeroV, .int .i64 k])) w' := by
  subst hco; exact ⟨zeroV, zeroV, rfl, fun h => absurd h hk, fun _ => ⟨rfl, rfl⟩, hb⟩

abbrev W5 (w : World) (na nb : Bool) (A A' : Option Addr) (n c n' c' : Nat) : World :=
  ((((w.alloc (.cells #[.bool na, .slice A n c] 24)).alloc (.cells #[.bool nb, .slice A' n' c'] 24)).alloc (.cells #[.bool false, .slice none 0 0] 24)).alloc (.cells #[.bool false, .slice none 0 0] 24)).alloc (.cells #[.bool na, .slice A n c, .bool nb, .slice A' n' c'] 24)
theorem W5_below (w : World) (na nb : Bool) (A A' : Option Addr) (n c n' c' : Nat) : Below w.heap.size w (W5 w na nb A A' n c n' c') :=
  (((((Below.refl w.heap.size w).alloc (Nat.le_refl _) _).alloc (by simp) _).alloc (by simp; omega) _).alloc (by simp; omega) _).alloc (by simp; omega) _
theorem W5_heap (w : World) (na nb : Bool) (A A' : Option Addr) (n c n' c' : Nat) :
    (W5 w na nb A A' n c n' c').heap[w.heap.size]? = some (.cells #[.bool na, .slice A n c] 24 (0, 0)) ∧ (W5 w na nb A A' n c n' c').heap[w.heap.size + 1]? = some (.cells #[.bool nb, .slice A' n' c'] 24 (0, 0)) ∧
    (W5 w na nb A A' n c n' c').heap[w.heap.size + 1 + 1]? = some (.cells #[.bool false, .slice none 0 0] 24 (0, 0)) ∧ (W5 w na nb A A' n c n' c').heap[w.heap.size + 1 + 1 + 1]? = some (.cells #[.bool false, .slice none 0 0] 24 (0, 0)) ∧
    (W5 w na nb A A' n c n' c').heap[w.heap.size + 1 + 1 + 1 + 1]? = some (.cells #[.bool na, .slice A n c, .bool nb, .slice A' n' c'] 24 (0, 0)) := by
  unfold W5 World.alloc
  simp only [Array.getElem?_push, Array.size_push]
  refine ⟨?_, ?_, ?_, ?_, ?_⟩ <;> (repeat (first | rw [if_pos trivial] | rw [if_pos (by omega)] | rw [if_neg (by omega)]))
theorem W5_cells {w w2 : World} {na nb : Bool} {A A' : Option Addr} {n c n' c' C : Nat} (hb : Below C (W5 w na nb A A' n c n' c') w2) (hC : w.heap.size + 1 + 1 + 1 + 1 ≤ C) :
    (w2.cell? ⟨w.heap.size + 1 + 1, 0, none⟩ = some (.bool false) ∧ w2.cell? ⟨w.heap.size + 1 + 1, 1, none⟩ = some (.slice none 0 0) ∧ w2.frozen? ⟨w.heap.size + 1 + 1, 0, none⟩ = false ∧ w2.frozen? ⟨w.heap.size + 1 + 1, 1, none⟩ = false) ∧
    (w2.cell? ⟨w.heap.size + 1 + 1 + 1, 0, none⟩ = some (.bool false) ∧ w2.cell? ⟨w.heap.size + 1 + 1 + 1, 1, none⟩ = some (.slice none 0 0) ∧ w2.frozen? ⟨w.heap.size + 1 + 1 + 1, 0, none⟩ = false ∧ w2.frozen? ⟨w.heap.size + 1 + 1 + 1, 1, none⟩ = false) := by
  obtain ⟨_, _, h3, h4, _⟩ := W5_heap w na nb A A' n c n' c'
  exact ⟨two_cells hb h3 (by omega), two_cells hb h4 (by omega)⟩
theorem W5_held {w w2 : World} {na nb : Bool} {A A' : Option Addr} {n c n' c' : Nat} (hb : Below (w.heap.size + 1 + 1) (W5 w na nb A A' n c n' c') w2) :
    (w2.cell? ⟨w.heap.size, 0, none⟩ = some (.bool na) ∧ w2.cell? ⟨w.heap.size, 1, none⟩ = some (.slice A n c)) ∧ (w2.cell? ⟨w.heap.size + 1, 0, none⟩ = some (.bool nb) ∧ w2.cell? ⟨w.heap.size + 1, 1, none⟩ = some (.slice A' n' c')) := by
  obtain ⟨h1, h2, _⟩ := W5_heap w na nb A A' n c n' c'
  have a := two_cells hb h1 (by omega)
  have b := two_cells hb h2 (by omega)
  exact ⟨⟨a.1, a.2.1⟩, b.1, b.2.1⟩
theorem W5_long {w : World} {na nb : Bool} {B B' : Nat} {A A' : Option Addr} {l m : List Nat} {n c n' c' : Nat} (hs : SlU w B A n c l) (ht : SlU w B' A' n' c' m) (hn : n ≤ 67108864) (hn' : n' ≤ 67108864) (hB : B ≤ w.heap.size) (hB' : B' ≤ w.heap.size) :
    Calls Try.prog 69 #[.slice (some ⟨w.heap.size + 1 + 1 + 1 + 1, 0, none⟩) 2 2] (W5 w na nb A A' n c n' c') (LongPost (lng l || lng m) (W5 w na nb A A' n c n' c')) := by
  have hb := W5_below w na nb A A' n c n' c'
  obtain ⟨_, _, _, _, hg⟩ := W5_heap w na nb A A' n c n' c'
  exact long2_any (neg := na) (neg' := nb) (hs.below hb hB) hn (Nat.le_trans hB hb.size) (ht.below hb hB') hn' (Nat.le_trans hB' hb.size)
    (cell_of_row _ _ 0 _ _ (0, 0) hg) (cell_of_row _ _ 1 _ _ (0, 0) hg) (cell_of_row _ _ 2 _ _ (0, 0) hg) (cell_of_row _ _ 3 _ _ (0, 0) hg)

theorem ival_tdiv (na nb : Bool) {l m o : List Nat} (h : nv W o = nv W l / nv W m) : ival (!(na == nb)) o = (ival na l).tdiv (ival nb m) := by
  cases na <;> cases nb <;> simp [ival, h, Int.neg_tdiv, Int.tdiv_neg]
theorem ival_tmod (na nb : Bool) {l m o : List Nat} (h : nv W o = nv W l % nv W m) : ival na o = (ival na l).tmod (ival nb m) := by
  cases na <;> cases nb <;> simp [ival, h, Int.neg_tmod, Int.tmod_neg, Int.tmod_eq_emod_of_nonneg]
end Go.Proofs.Ytggdmhkdmkldoaa

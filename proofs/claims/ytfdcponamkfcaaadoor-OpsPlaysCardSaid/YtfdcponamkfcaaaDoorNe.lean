import Derived.Shelf.GgSortFunc.InsertionK
import Derived.Sort.OwnSorted
import Derived.Test.YtfdcponamkfcaaaDoorNd
namespace Go.Proofs.YtfdcponamkfcaaaDoor
open Go.RowKit Ho Go.Maps Go.Shelf Go.Sort Hb
set_option linter.unusedVariables false
set_option linter.unusedSimpArgs false
/-! ### the sort of a slice of operators -/
theorem flO_get (xs : List OpV) {i k : Nat} (hi : i < xs.length) (hk : k < 3) : (flO xs)[i * 3 + k]? = (encO (xs.toArray[i]!))[k]? := by
  induction xs generalizing i with
  | nil => simp at hi
  | cons x xs ih =>
    have e : flO (x :: xs) = encO x ++ flO xs := by simp [flO]
    have hl : (encO x).length = 3 := rfl
    rw [e]
    cases i with
    | zero => rw [List.getElem?_append_left (by omega)]; simp
    | succ i =>
      have hi' : i < xs.length := by simpa using hi
      rw [List.getElem?_append_right (by omega), show (i + 1) * 3 + k - (encO x).length = i * 3 + k by omega, ih hi']
      simp [hi']
theorem flatK_flO (xs : List OpV) : flatK encO 3 xs.toArray = (flO xs).toArray := by
  apply Array.ext
  · simp [flO_length]
  · intro t h1 h2
    have ht : t < xs.length * 3 := by simpa using h1
    have hq : t / 3 < xs.length := by omega
    have hg := get_flatK encO 3 xs.toArray t (by simpa using ht)
    rw [getElem!_pos _ t h1] at hg
    rw [hg]
    have hm : t % 3 < 3 := Nat.mod_lt _ (by omega)
    have h3 := flO_get xs (i := t / 3) (k := t % 3) hq hm
    have e : t / 3 * 3 + t % 3 = t := by omega
    rw [e] at h3
    have hl : (encO (xs.toArray[t / 3]!)).length = 3 := rfl
    rw [getElem!_pos _ (t % 3) (by omega)]
    simp only [List.getElem_toArray]
    rw [List.getElem?_eq_getElem (by rw [flO_length]; exact ht), List.getElem?_eq_getElem (by omega)] at h3
    exact (Option.some.inj h3).symm
theorem holdsO {w : World} {n₀ g k c : Nat} {xs : List OpV} (h : w.ownsRow n₀ 23 3 (.slice (some ⟨g, 0, none⟩) k c) k (flO xs)) : HoldsK encO 3 w g 0 xs.toArray := by
  have hl : xs.length = k := by have := h.1; rw [flO_length] at this; omega
  unfold HoldsK
  rw [flatK_flO]
  intro j hj
  have hj' : j < (flO xs).length := by simpa using hj
  have e2 : (⟨g, 0, none⟩ : Addr).add j = ⟨g, j, none⟩ := add_zero' g j
  refine ⟨?_, ?_⟩
  · have h2 := World.ownsRow.cells h (g := g) rfl j _ (List.getElem?_eq_getElem hj')
    rw [e2] at h2
    rw [Nat.zero_add, h2, getElem!_pos _ j (by simpa using hj)]
    simp
  · rcases h.2 with ⟨h1, _⟩ | ⟨g', cap, cur, h1, h2, h3, _⟩
    · cases h1
    · injection h1 with a b c
      injection a with a
      injection a with a
      subst a
      simp [World.frozen?, h3]
/-- a block g holds the list xs, as a row of operators -/
def RowO (w : World) (g : Nat) (xs : List OpV) : Prop := HoldsK encO 3 w g 0 xs.toArray ∧ ∃ o, w.heap[g]? = some o ∧ o.isCells = true
theorem RowO.same {w w' : World} {g : Nat} {xs : List OpV} (h : RowO w g xs) (he : w'.heap[g]? = w.heap[g]?) : RowO w' g xs := by
  obtain ⟨h1, o, ho, hc⟩ := h
  refine ⟨fun j hj => ?_, o, he.trans ho, hc⟩
  obtain ⟨a, b⟩ := h1 j hj
  exact ⟨(World.cell?_of_block (a := ⟨g, 0 + j, none⟩) he).trans a, (World.frozen?_of_block (a := ⟨g, 0 + j, none⟩) he).trans b⟩
theorem RowO.lt {w : World} {g : Nat} {xs : List OpV} (h : RowO w g xs) : g < w.heap.size := by
  obtain ⟨_, o, ho, _⟩ := h
  exact (Array.getElem?_eq_some_iff.1 ho).1
theorem RowO.cells {w : World} {g : Nat} {xs : List OpV} (h : RowO w g xs) {i : Nat} (hi : i < xs.length) :
    w.cell? ⟨g, i * 3, none⟩ = some (.string ⟨(xs.toArray[i]!).n.toArray⟩) ∧ w.cell? ⟨g, i * 3 + 1, none⟩ = some (.int .i64 (xs.toArray[i]!).t) ∧ w.cell? ⟨g, i * 3 + 2, none⟩ = some (.int .i64 (xs.toArray[i]!).p) := by
  have h0 := (h.1.cell (i := i) (c := 0) (by simpa using hi) (by omega)).1
  have h1 := (h.1.cell (i := i) (c := 1) (by simpa using hi) (by omega)).1
  have h2 := (h.1.cell (i := i) (c := 2) (by simpa using hi) (by omega)).1
  rw [Nat.zero_add] at h0 h1 h2
  exact ⟨h0, h1, h2⟩
theorem grownBy_sortedO {w : World} {g n : Nat} {os : Array Obj} (d : Array OpV) : w.grownBy (sortWorldK encO 3 w g 0 n d os) (some g) := by
  refine ⟨rfl, rfl, rfl, by simp [sortWorldK, putRowK], fun k hk hne => ?_⟩
  unfold sortWorldK putRowK
  rw [heap_grow_old _ _ (by simpa using hk)]
  have : g ≠ k := fun e => hne (by rw [e])
  simp [putRow, mapBlock, Sort.ahead, Array.getElem?_modify, this]
theorem sort_any (hsort : ∀ (blk off cap : Nat) (d : Array OpV) (w : World), HoldsK encO 3 w blk off d → blk < w.heap.size → d.size < 4611686018427387904 →
      Calls Tryd.prog 40 #[.slice (some ⟨blk, off, none⟩) d.size cap, .func (.func 41) #[] #[]] w fun e w' => e = .returned (.tuple #[]) ∧ ∃ d' n os, PermIn 0 d.size d d' ∧ SortedIn ltO 0 d.size d' ∧ w' = sortWorldK encO 3 w blk off n d' os)
    {w : World} {n₀ g k c : Nat} {xs L : List OpV} (hrow : w.ownsRow n₀ 23 3 (.slice (some ⟨g, 0, none⟩) k c) k (flO xs)) (hk : k < 4611686018427387904) (hp : xs.Perm L) (hu : Uq L) :
    Calls Tryd.prog 40 #[.slice (some ⟨g, 0, none⟩) k c, .func (.func 41) #[] #[]] w fun e w' => e = .returned (.tuple #[]) ∧ RowO w' g (srt L) ∧ w.grownBy w' (some g) := by
  have hl : xs.length = k := by have := hrow.1; rw [flO_length] at this; omega
  have hH := holdsO hrow
  have hlt : g < w.heap.size ∧ ∃ cur, w.heap[g]? = some (.cells cur 23 (0, 0)) := by
    rcases hrow.2 with ⟨h1, _⟩ | ⟨g', cap, cur, h1, h2, h3, _⟩
    · cases h1
    · injection h1 with a b c
      injection a with a
      injection a with a
      subst a
      exact ⟨(Array.getElem?_eq_some_iff.1 h3).1, cur, h3⟩
  have h := hsort g 0 c xs.toArray w hH hlt.1 (by simpa [hl] using hk)
  have e : xs.toArray.size = k := by simpa using hl
  rw [e] at h
  refine h.mono fun en w' ⟨he, d', n, os, h1, h2, hw⟩ => ⟨he, ?_, by rw [hw]; exact grownBy_sortedO d'⟩
  have hs : d'.toList = srt L := srt_of_sortedIn (d := xs.toArray) (by rw [e]; exact h1) (by rw [e]; exact h2) hp hu
  have hd : (srt L).toArray = d' := by rw [← hs]
  have hz : d'.size = xs.toArray.size := h1.1
  subst hw
  refine ⟨?_, ?_⟩
  · rw [hd]
    unfold sortWorldK
    refine holdsK_grow _ _ _ _ _ _ _ ?_ (holdsK_putRowK _ _ _ _ _ xs.toArray d' (holdsK_ahead _ _ _ _ _ _ _ hH) hz)
    simpa [putRowK] using hlt.1
  · obtain ⟨cur, hcur⟩ := hlt.2
    have hg : g < w.heap.size := hlt.1
    refine ⟨.cells (putCells id 0 (flatK encO 3 d') cur) 23 (0, 0), ?_, rfl⟩
    unfold sortWorldK putRowK
    rw [heap_grow_old _ _ (by simpa using hg)]
    simp [putRow, mapBlock, Sort.ahead, Array.getElem?_modify, hcur, onCells]
end Go.Proofs.YtfdcponamkfcaaaDoor

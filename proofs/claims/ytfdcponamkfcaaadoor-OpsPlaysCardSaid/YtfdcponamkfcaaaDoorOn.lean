import Derived.Test.YtfdcponamkfcaaaDoorOd
import Derived.Test.YtfdcponamkfcaaaDoorOf
import Derived.Carry
namespace Go.Proofs.YtfdcponamkfcaaaDoor
open Go.RowKit Ho Go.Maps
set_option linter.unusedVariables false
set_option linter.unusedSimpArgs false

/-! ### New -/
def rowP (i : Nat) : Int := [1200, 1200, 1100, 1050, 1000, 900, 760, 700, 500, 450, 400, 200, 200, 200].getD i 0
def rowK (i : Nat) : Int := [3, 1, 4, 4, 4, 2, 5, 3, 5, 3, 5, 3, 4, 2].getD i 0
def rowC (i : Nat) : Nat := [1, 0, 1, 1, 1, 0, 1, 1, 1, 1, 1, 1, 1, 0].getD i 0
def rowT (i : Nat) : ByteArray := ([⟨#[58, 45, 32, 45, 45, 62]⟩, ⟨#[58, 45, 32, 63, 45]⟩, ⟨#[59, 32, 124]⟩, ⟨#[45, 62]⟩, ⟨#[44]⟩, ⟨#[92, 43]⟩, ⟨#[35, 60, 61, 61, 62]⟩, ⟨#[61, 32, 92, 61, 32, 61, 61, 32, 92, 61, 61, 32, 64, 60, 32, 64, 61, 60, 32, 64, 62, 32, 64, 62, 61, 32, 61, 46, 46, 32, 105, 115, 32, 61, 58, 61, 32, 61, 92, 61, 32, 60, 32, 61, 60, 32, 62, 32, 62, 61, 32, 105, 110, 32, 105, 110, 115, 32, 35, 61, 32, 35, 92, 61, 32, 35, 60, 32, 35, 61, 60, 32, 35, 62, 32, 35, 62, 61]⟩, ⟨#[43, 32, 45, 32, 47, 92, 32, 92, 47]⟩, ⟨#[46, 46]⟩, ⟨#[42, 32, 47, 32, 47, 47, 32, 114, 101, 109, 32, 109, 111, 100, 32, 100, 105, 118, 32, 60, 60, 32, 62, 62, 32, 120, 111, 114]⟩, ⟨#[42, 42]⟩, ⟨#[94, 32, 58]⟩, ⟨#[45, 32, 43, 32, 92]⟩] : List ByteArray).getD i ⟨#[]⟩
def rowN (i : Nat) : List (List UInt8) := Lib.fields (rowT i).data.toList
def rowO (i : Nat) : List OpV := (rowN i).map fun n => ⟨n, rowK i, rowP i⟩
def rowCells : Array Value := #[.int .i64 1200, .int .i64 3, .string ⟨#[58, 45, 32, 45, 45, 62]⟩, .int .i64 1200, .int .i64 1, .string ⟨#[58, 45, 32, 63, 45]⟩, .int .i64 1100, .int .i64 4, .string ⟨#[59, 32, 124]⟩, .int .i64 1050, .int .i64 4, .string ⟨#[45, 62]⟩, .int .i64 1000, .int .i64 4, .string ⟨#[44]⟩, .int .i64 900, .int .i64 2, .string ⟨#[92, 43]⟩, .int .i64 760, .int .i64 5, .string ⟨#[35, 60, 61, 61, 62]⟩, .int .i64 700, .int .i64 3, .string ⟨#[61, 32, 92, 61, 32, 61, 61, 32, 92, 61, 61, 32, 64, 60, 32, 64, 61, 60, 32, 64, 62, 32, 64, 62, 61, 32, 61, 46, 46, 32, 105, 115, 32, 61, 58, 61, 32, 61, 92, 61, 32, 60, 32, 61, 60, 32, 62, 32, 62, 61, 32, 105, 110, 32, 105, 110, 115, 32, 35, 61, 32, 35, 92, 61, 32, 35, 60, 32, 35, 61, 60, 32, 35, 62, 32, 35, 62, 61]⟩, .int .i64 500, .int .i64 5, .string ⟨#[43, 32, 45, 32, 47, 92, 32, 92, 47]⟩, .int .i64 450, .int .i64 3, .string ⟨#[46, 46]⟩, .int .i64 400, .int .i64 5, .string ⟨#[42, 32, 47, 32, 47, 47, 32, 114, 101, 109, 32, 109, 111, 100, 32, 100, 105, 118, 32, 60, 60, 32, 62, 62, 32, 120, 111, 114]⟩, .int .i64 200, .int .i64 3, .string ⟨#[42, 42]⟩, .int .i64 200, .int .i64 4, .string ⟨#[94, 32, 58]⟩, .int .i64 200, .int .i64 2, .string ⟨#[45, 32, 43, 32, 92]⟩]
/-- the operators of the first rows -/
def rowsO : Nat → List OpV | 0 => [] | i + 1 => rowsO i ++ rowO i
/-- the table behind so many stores -/
def putAll (l : List OpV) : List OpV := l.foldl Ho.put []
theorem putAll_snoc (l : List OpV) (x : OpV) : putAll (l ++ [x]) = Ho.put (putAll l) x := by simp [putAll]
theorem row_cases {P : Nat → Prop} (h : ∀ i ∈ List.range 14, P i) (i : Nat) (hi : i < 14) : P i := h i (List.mem_range.2 hi)
theorem row_cell0 (i : Nat) (hi : i < 14) : rowCells[i * 3]? = some (.int .i64 (rowP i)) ∧ rowCells[i * 3 + 1]? = some (.int .i64 (rowK i)) ∧ rowCells[i * 3 + 2]? = some (.string (rowT i)) := by
  have h : i = 0 ∨ i = 1 ∨ i = 2 ∨ i = 3 ∨ i = 4 ∨ i = 5 ∨ i = 6 ∨ i = 7 ∨ i = 8 ∨ i = 9 ∨ i = 10 ∨ i = 11 ∨ i = 12 ∨ i = 13 := by omega
  rcases h with rfl | rfl | rfl | rfl | rfl | rfl | rfl | rfl | rfl | rfl | rfl | rfl | rfl | rfl <;> exact ⟨rfl, rfl, rfl⟩
theorem row_cls : ∀ i, i < 14 → cls (rowK i) = rowC i + 1 ∧ rowC i < 3 := by
  intro i hi
  have h : i = 0 ∨ i = 1 ∨ i = 2 ∨ i = 3 ∨ i = 4 ∨ i = 5 ∨ i = 6 ∨ i = 7 ∨ i = 8 ∨ i = 9 ∨ i = 10 ∨ i = 11 ∨ i = 12 ∨ i = 13 := by omega
  rcases h with rfl | rfl | rfl | rfl | rfl | rfl | rfl | rfl | rfl | rfl | rfl | rfl | rfl | rfl <;> decide
theorem row_ascii : ∀ i, i < 14 → (rowT i).size < 1000 ∧ (∀ b ∈ (rowT i).data.toList, b.toNat < 128) ∧ (rowN i).length ≤ 30 ∧ ∀ n ∈ rowN i, n.length ≤ 10 := by
  intro i hi
  have h : i = 0 ∨ i = 1 ∨ i = 2 ∨ i = 3 ∨ i = 4 ∨ i = 5 ∨ i = 6 ∨ i = 7 ∨ i = 8 ∨ i = 9 ∨ i = 10 ∨ i = 11 ∨ i = 12 ∨ i = 13 := by omega
  rcases h with rfl | rfl | rfl | rfl | rfl | rfl | rfl | rfl | rfl | rfl | rfl | rfl | rfl | rfl <;> decide +kernel
/-- between two stores: the table, the rows, what lay there -/
def NewRel (w : World) (g b1 b2 b3 S : Nat) (cs : Array Value) (l : List OpV) (wr : World) : Prop :=
  TabAt wr g b1 b2 b3 l.length (putAll l) ∧ wr.heap[S]? = some (.cells cs 74 (0, 0)) ∧ Below w.heap.size w wr
theorem new_start (w : World) (cs : Array Value) : NewRel w w.heap.size (w.heap.size + 1) (w.heap.size + 1 + 1) (w.heap.size + 1 + 1 + 1) (w.heap.size + 1 + 1 + 1 + 1) cs [] (((((w.alloc (.cells #[.map (some (w.heap.size + 1)), .map (some (w.heap.size + 1 + 1)), .map (some (w.heap.size + 1 + 1 + 1))] 65)).alloc (.map #[] 0)).alloc (.map #[] 0)).alloc (.map #[] 0)).alloc (.cells cs 74)) := by
  have h0 := heap_alloc_new w (.cells #[.map (some (w.heap.size + 1)), .map (some (w.heap.size + 1 + 1)), .map (some (w.heap.size + 1 + 1 + 1))] 65)
  have hbw : ∀ (u : World) (o : Obj), Below u.heap.size u (u.alloc o) := fun u o => (Below.refl _ _).alloc (Nat.le_refl _) o
  have e1 : (w.alloc (.cells #[.map (some (w.heap.size + 1)), .map (some (w.heap.size + 1 + 1)), .map (some (w.heap.size + 1 + 1 + 1))] 65)).heap.size = w.heap.size + 1 := by simp
  generalize hA : w.alloc (.cells #[.map (some (w.heap.size + 1)), .map (some (w.heap.size + 1 + 1)), .map (some (w.heap.size + 1 + 1 + 1))] 65) = A at *
  have hbA : Below w.heap.size w A := by rw [← hA]; exact hbw w _
  have m1 := MapOf.made (P := Tryd.prog) (K := 9) A 1
  have e2 : (A.alloc (.map #[] 0)).heap.size = w.heap.size + 1 + 1 := by simp [e1]
  have h0B := (hbw A (.map #[] 0)).block _ (by omega : w.heap.size < A.heap.size)
  have hbB := hbA.trans ((hbw A (.map #[] 0)).mono (by omega : w.heap.size ≤ A.heap.size))
  rw [e1] at m1
  generalize A.alloc (.map #[] 0) = B at *
  have m2 := MapOf.made (P := Tryd.prog) (K := 9) B 2
  have e3 : (B.alloc (.map #[] 0)).heap.size = w.heap.size + 1 + 1 + 1 := by simp [e2]
  have h0C := (hbw B (.map #[] 0)).block _ (by omega : w.heap.size < B.heap.size)
  have hbC := hbB.trans ((hbw B (.map #[] 0)).mono (by omega : w.heap.size ≤ B.heap.size))
  have m1C := m1.below (hbw B (.map #[] 0)) (by omega)
  rw [e2] at m2
  generalize B.alloc (.map #[] 0) = C at *
  have m3 := MapOf.made (P := Tryd.prog) (K := 9) C 3
  have e4 : (C.alloc (.map #[] 0)).heap.size = w.heap.size + 1 + 1 + 1 + 1 := by simp [e3]
  have h0D := (hbw C (.map #[] 0)).block _ (by omega : w.heap.size < C.heap.size)
  have hbD := hbC.trans ((hbw C (.map #[] 0)).mono (by omega : w.heap.size ≤ C.heap.size))
  have m1D := m1C.below (hbw C (.map #[] 0)) (by omega)
  have m2D := m2.below (hbw C (.map #[] 0)) (by omega)
  rw [e3] at m3
  generalize C.alloc (.map #[] 0) = D at *
  have hS := heap_alloc_new D (.cells cs 74)
  have h0E := (hbw D (.cells cs 74)).block _ (by omega : w.heap.size < D.heap.size)
  have hbE := hbD.trans ((hbw D (.cells cs 74)).mono (by omega : w.heap.size ≤ D.heap.size))
  have m1E := m1D.below (hbw D (.cells cs 74)) (by omega)
  have m2E := m2D.below (hbw D (.cells cs 74)) (by omega)
  have m3E := m3.below (hbw D (.cells cs 74)) (by omega)
  rw [e4] at hS
  exact ⟨⟨h0E.trans (h0D.trans (h0C.trans (h0B.trans h0))), m1E, m2E, m3E, by omega, by omega, by omega⟩, hS, hbE⟩
theorem NewRel.step {w wr w2 : World} {g b1 b2 b3 S : Nat} {cs : Array Value} {l : List OpV} {x : OpV} {c b : Nat} (h : NewRel w g b1 b2 b3 S cs l wr) (hg : w.heap.size ≤ b1 ∧ w.heap.size ≤ b2 ∧ w.heap.size ≤ b3) (hc : c < 3) (hb : b = (if c = 0 then b1 else if c = 1 then b2 else b3)) (hx : cls x.t = c + 1)
    (hm : MapOf Tryd.prog 9 w2 b (l.length + 1) (c + 1) (Ho.put (putAll l) x)) (hgr : wr.grownBy w2 (some b)) : NewRel w g b1 b2 b3 S cs (l ++ [x]) w2 := by
  obtain ⟨ht, hS, hw⟩ := h
  have hne := ht.ne hS
  have hbS : some S ≠ some b := by
    intro e
    injection e with e
    have h012 : c = 0 ∨ c = 1 ∨ c = 2 := by omega
    rcases h012 with rfl | rfl | rfl
    · exact hne.1 (by rw [e, hb]; rfl)
    · exact hne.2.1 (by rw [e, hb]; rfl)
    · exact hne.2.2 (by rw [e, hb]; rfl)
  have hbw : w.heap.size ≤ b := by
    rw [hb]
    split
    · exact hg.1
    · split
      · exact hg.2.1
      · exact hg.2.2
  refine ⟨?_, (hgr.block S (Array.getElem?_eq_some_iff.1 hS).1 hbS).trans hS, hw.grown hgr hw.size (fun j hj => by cases hj; exact hbw)⟩
  rw [putAll_snoc, List.length_append]
  exact TabAt.turn ht hc hb hm hgr (fun c' nm h9 => find_put_other (fun e => h9 (by rw [e.1, hx])))
theorem rowO_length (i : Nat) : (rowO i).length = (rowN i).length := by simp [rowO]
theorem rowsO_length : ∀ i, i ≤ 14 → (rowsO i).length ≤ 30 * i
  | 0, _ => by simp [rowsO]
  | i + 1, h => by
    have h1 := rowsO_length i (by omega)
    have h2 := (row_ascii i (by omega)).2.2.1
    rw [rowsO, List.length_append, rowO_length]
    omega
theorem rowO_step {i j : Nat} {nl : List (List UInt8)} (hN : rowN i = nl) (hj : j < nl.length) : rowsO i ++ (rowO i).take (j + 1) = (rowsO i ++ (rowO i).take j) ++ [⟨nl.getD j [], rowK i, rowP i⟩] := by
  have hl : j < (rowO i).length := by rw [rowO_length, hN]; exact hj
  rw [List.take_succ_eq_append_getElem hl, List.append_assoc]
  congr 2
  simp [rowO, hN, List.getD_eq_getElem?_getD, List.getElem?_eq_getElem hj]
theorem rowO_done {i n : Nat} {nl : List (List UInt8)} (hN : rowN i = nl) (hn : nl.length = n) : rowsO i ++ (rowO i).take n = rowsO (i + 1) := by
  rw [rowsO, List.take_of_length_le (by rw [rowO_length, hN, hn]; exact Nat.le_refl _)]
theorem NewRel.cells {w wr w2 : World} {g b1 b2 b3 S : Nat} {cs : Array Value} {l : List OpV} {c b p : Nat} {xs : Array Value} {t : TypeId} {k : Nat × Nat} (h : NewRel w g b1 b2 b3 S cs l wr) (hc : c < 3) (hb : b = (if c = 0 then b1 else if c = 1 then b2 else b3)) (hgr : wr.grownBy w2 (some b)) (hp : wr.heap[p]? = some (.cells xs t k)) : w2.heap[p]? = some (.cells xs t k) := by
  have hne := h.1.ne hp
  refine (hgr.block p (Array.getElem?_eq_some_iff.1 hp).1 (fun e => ?_)).trans hp
  injection e with e
  have h012 : c = 0 ∨ c = 1 ∨ c = 2 := by omega
  rcases h012 with rfl | rfl | rfl
  · exact hne.1 (by rw [e, hb]; rfl)
  · exact hne.2.1 (by rw [e, hb]; rfl)
  · exact hne.2.2 (by rw [e, hb]; rfl)
theorem NewRel.below {w wr w2 : World} {g b1 b2 b3 S : Nat} {cs : Array Value} {l : List OpV} (h : NewRel w g b1 b2 b3 S cs l wr) (hb : Below wr.heap.size wr w2) : NewRel w g b1 b2 b3 S cs l w2 :=
  ⟨h.1.below hb, (hb.block S (Array.getElem?_eq_some_iff.1 h.2.1).1).trans h.2.1, h.2.2.trans (hb.mono h.2.2.size)⟩
end Go.Proofs.YtfdcponamkfcaaaDoor

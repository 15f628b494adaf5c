import Derived.Laws.StructEq
import Derived.Test.YtfdcponamkfcaaaDoorNk
import Derived.Test.YtfdcponamkfcaaaDoorNl
namespace Go.Proofs.YtfdcponamkfcaaaDoor
open Go.RowKit Ho Go.Maps Go.Shelf Go.Sort Hb
set_option linter.unusedVariables false
set_option linter.unusedSimpArgs false
/-! ### what the laws share -/
theorem eqO (x y : OpV) (w : World) : (binOp .eql 23 (opV x) (opV y)).run Tryd.prog w = .ok (.bool (decide (x = y))) w := by
  have u3 := Tryd.underlying3
  have a3 := Tryd.isAgg3
  have z3 := Tryd.sizeOf3
  have u9 := Tryd.underlying9
  have a9 := Tryd.isAgg9
  have z9 := Tryd.sizeOf9
  have hS : Tryd.prog.underlying 23 = some (.struct (Tryd.prog.fieldsOf 23)) := by kernel_rfl
  have hp : Tryd.prog.stoodInHeld 23 = false := by kernel_rfl
  obtain ⟨xn, xt, xp⟩ := x
  obtain ⟨yn, yt, yp⟩ := y
  simp only [opV]
  rw [run_eql_struct, show (10000 : Nat) = 9999 + 1 from rfl, run_equalIn_agg w 9999 23 _ _ hS hp]
  simp only [Program.fieldsOf, Tryd.underlying23]
  go_simp
  by_cases h1 : xn = yn <;> by_cases h2 : xt = yt <;> by_cases h3 : xp = yp <;> simp [h1, h2, h3, ByteArray.toList_eq]
theorem inv_L0 : Inv L0 where
  uq := by unfold Uq; decide +kernel
  cl := by decide +kernel
  comma := by decide +kernel
  pr := by decide +kernel
  apart n := by
    rintro ⟨_, h⟩
    obtain ⟨x, hx⟩ := Option.isSome_iff_exists.1 h
    obtain ⟨a, _, b⟩ := find_some hx
    have : ∀ x ∈ L0, cls x.t ≠ 3 := by decide +kernel
    exact this x a b
theorem good_of {L : List OpV} (h : Inv L) : GoodL L := ⟨h.uq, h.cl, h.ne⟩
theorem inv_fill {L : List OpV} (h : Inv L) : ∀ ls : List OpV, Inv (fill L ls) := by
  intro ls
  induction ls generalizing L with
  | nil => exact h
  | cons x ls ih => exact ih (h.add x.p x.t x.n)
theorem fill_len (L : List OpV) : ∀ ls : List OpV, (fill L ls).length ≤ L.length + ls.length := by
  intro ls
  induction ls generalizing L with
  | nil => simp [fill]
  | cons x ls ih =>
    have h1 := ih (Ho.add L x.p x.t x.n)
    have h2 := add_len L x.p x.t x.n
    have e : fill L (x :: ls) = fill (Ho.add L x.p x.t x.n) ls := rfl
    rw [e, List.length_cons]; omega
theorem L0_names : ∀ x ∈ L0, x.n.length ≤ maxLen := by
  have : ∀ x ∈ L0, x.n.length ≤ 100 := by decide +kernel
  exact fun x hx => Nat.le_trans (this x hx) (by unfold maxLen; omega)
theorem add_names {L : List OpV} {p k : Int} {n : List UInt8} (h : ∀ x ∈ L, x.n.length ≤ maxLen) (hn : n.length ≤ maxLen) : ∀ x ∈ Ho.add L p k n, x.n.length ≤ maxLen := by
  intro x hx
  unfold Ho.add after put at hx
  split at hx
  · split at hx
    · rcases List.mem_append.1 hx with hx | hx
      · exact h x (mem_del hx)
      · simp at hx; subst hx; exact hn
    · exact h x (mem_del hx)
  · exact h x hx
theorem fill_names {L : List OpV} (h : ∀ x ∈ L, x.n.length ≤ maxLen) : ∀ {ls : List OpV}, (∀ x ∈ ls, x.n.length ≤ maxLen) → ∀ x ∈ fill L ls, x.n.length ≤ maxLen := by
  intro ls
  induction ls generalizing L with
  | nil => exact fun _ => h
  | cons y ls ih => exact fun hls => ih (add_names h (hls y (List.mem_cons_self ..))) (fun x hx => hls x (List.mem_cons_of_mem _ hx))
theorem L0_len : L0.length ≤ 100 := by decide +kernel
/-- a row that the call has made, as a row of operators -/
theorem row_of_owns {w : World} {n₀ g k c : Nat} {xs : List OpV} (h : w.ownsRow n₀ 23 3 (.slice (some ⟨g, 0, none⟩) k c) k (flO xs)) : RowO w g xs ∧ n₀ ≤ g ∧ g < w.heap.size ∧ ∃ cs, w.heap[g]? = some (.cells cs 23 (0, 0)) := by
  rcases h.2 with ⟨h1, _⟩ | ⟨g', cap, cur, h1, h2, h3, _⟩
  · cases h1
  · injection h1 with a _ _
    injection a with a
    injection a with a
    subst a
    exact ⟨⟨holdsO h, _, h3, rfl⟩, h2, (Array.getElem?_eq_some_iff.1 h3).1, _, h3⟩
theorem owns_cap {w : World} {n₀ k c : Nat} {A : Option Addr} {xs : List Value} (h : w.ownsRow n₀ 23 3 (.slice A k c) k xs) : k ≤ c := by
  rcases h.2 with ⟨h1, h2⟩ | ⟨g', cap, cur, h1, _, _, h4, _⟩
  · omega
  · injection h1 with _ _ b; omega
theorem RowO.at_ {w : World} {g : Nat} {xs : List OpV} (h : RowO w g xs) {i : Nat} (hi : i < xs.length) :
    w.cell? ⟨g, i * 3, none⟩ = some (.string ⟨(xs[i]).n.toArray⟩) ∧ w.cell? ⟨g, i * 3 + 1, none⟩ = some (.int .i64 (xs[i]).t) ∧ w.cell? ⟨g, i * 3 + 2, none⟩ = some (.int .i64 (xs[i]).p) := by
  have e : xs.toArray[i]! = xs[i] := by rw [getElem!_pos xs.toArray i (by simpa using hi)]; simp
  have := h.cells hi
  rwa [e] at this
theorem RowO.of {w : World} {g : Nat} {xs : List OpV} (h : RowO w g xs) {i : Nat} {y : OpV} (hy : xs[i]? = some y) :
    w.cell? ⟨g, i * 3, none⟩ = some (.string ⟨y.n.toArray⟩) ∧ w.cell? ⟨g, i * 3 + 1, none⟩ = some (.int .i64 y.t) ∧ w.cell? ⟨g, i * 3 + 2, none⟩ = some (.int .i64 y.p) := by
  obtain ⟨hi, e⟩ := List.getElem?_eq_some_iff.1 hy
  have := h.at_ hi
  rwa [e] at this
theorem RowO.dr {w w' : World} {g : Nat} {xs : List OpV} (h : RowO w g xs) (hd : Dr w w') : RowO w' g xs := h.same (by rw [hd.heap])
theorem BoxO.dr {w w' : World} {B : Nat} {x : OpV} (h : BoxO w B x) (hd : Dr w w') : BoxO w' B x := by unfold BoxO at *; rw [hd.heap]; exact h
theorem opV_lit (x : OpV) : ∃ nm t p, (⟨x.n.toArray⟩ : ByteArray) = nm ∧ x.t = t ∧ x.p = p ∧ opV x = .agg #[.string nm, .int .i64 t, .int .i64 p] := ⟨_, _, _, rfl, rfl, rfl, rfl⟩
end Go.Proofs.YtfdcponamkfcaaaDoor

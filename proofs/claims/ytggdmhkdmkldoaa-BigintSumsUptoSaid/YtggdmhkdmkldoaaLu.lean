import Derived.Test.YtggdmhkdmkldoaaCw
import Derived.Test.YtggdmhkdmkldoaaRows
import Derived.OpenShut
import Derived.JoinedCond
namespace Go.Proofs.Ytggdmhkdmkldoaa
open Go.ChangeShapes Go.WideShapes Go.ChangeAt Go.RowKit Go.Joins Hb

/-! ### what the bound of the second form gives -/
theorem bulk_one {H : Type} (d : DataW H) : 1 ≤ Rows.uptoBulk d := by
  cases d with
  | lit l => cases l <;> simp [Rows.uptoBulk]
  | nil => simp [Rows.uptoBulk]
  | ptr d => simp [Rows.uptoBulk]
  | slice elems spare => simp [Rows.uptoBulk]
  | agg parts => simp [Rows.uptoBulk]
  | iface t d => simp [Rows.uptoBulk]
  | map entries => simp [Rows.uptoBulk]
  | held h => simp [Rows.uptoBulk]
theorem bulk_part {H : Type} {d : DataW H} {l : List (DataW H)} (h : d ∈ l) : Rows.uptoBulk d ≤ Rows.uptoBulkAll l := by
  induction l with
  | nil => cases h
  | cons x r ih =>
    simp only [Rows.uptoBulkAll]
    cases List.mem_cons.1 h with
    | inl e => subst e; omega
    | inr e => have := ih e; omega
theorem bulk_length {H : Type} (l : List (DataW H)) : l.length ≤ Rows.uptoBulkAll l := by
  induction l with
  | nil => simp [Rows.uptoBulkAll]
  | cons x l ih => have := bulk_one x; simp only [Rows.uptoBulkAll, List.length_cons]; omega
set_option maxRecDepth 100000 in
/-- an integer's limbs -/
theorem bulk_Int {H : Type} {enc : TypeId × Value → H} {W : World} {base : Nat} {v : Value} {d : DataW H} {p : List MemPlace} (hval : Value.okWide Try.prog W .any base 24 v)
    (h : DataW.Trod enc Try.prog W 0 (fun _ => true) true 24 v d p) {neg : Bool} {A : Option Addr} {n c : Nat} (hv : v = .agg #[.bool neg, .slice A n c]) : n ≤ Rows.uptoBulk d := by
  obtain ⟨v0, v1, y0, y1, m, rfl, hd, _, h0, h1⟩ := open_agg2 Try.underlying24 (by kernel_rfl) cellsInt hval h
  have e0 : v1 = .slice A n c := by simp at hv; exact hv.2
  rcases open_ints Try.underlying22 Try.underlying48 cellsU h1 with ⟨e1, _⟩ | ⟨a, n', c', zs, e1, _, hnc, hcm, hz, hx, _⟩
  · simp at e1; rw [e0] at e1; injection e1 with _ e2 _; omega
  · simp at e1; rw [e0] at e1; injection e1 with _ e2 _
    subst e2
    have h2 : n ≤ zs.length := by rw [hz]; split <;> omega
    have h3 : Rows.uptoBulk y1.1 ≤ Rows.uptoBulk d := by
      rw [hd]
      have := bulk_part (d := y1.1) (l := [y0.1, y1.1]) (by simp)
      simp only [Rows.uptoBulk]
      omega
    refine Nat.le_trans ?_ h3
    rw [hx]
    have h4 := bulk_length (lits (H := H) .u32 (zs.take n))
    have h5 : (lits (H := H) .u32 (zs.take n)).length = n := by simp [lits]; omega
    simp only [Rows.uptoBulk]
    omega
set_option maxRecDepth 100000 in
/-- one of the arguments -/
theorem bulk_in {H : Type} {ds gs : List (DataW H)} (hk : Rows.uptoSmall H (ds ++ gs) = true) {d : DataW H} (hd : d ∈ ds ++ gs) : Rows.uptoBulk d ≤ 1048576 :=
  Nat.le_trans (bulk_part hd) (of_decide_eq_true hk)
end Go.Proofs.Ytggdmhkdmkldoaa

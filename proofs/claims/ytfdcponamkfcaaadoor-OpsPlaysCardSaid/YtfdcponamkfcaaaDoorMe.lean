import Derived.Test.YtfdcponamkfcaaaDoorMb
import Derived.Test.YtfdcponamkfcaaaDoorOq
import Derived.Test.YtfdcponamkfcaaaDoorNm
namespace Go.Proofs.YtfdcponamkfcaaaDoor
open Go.RowKit Ho Go.Maps Go.Shelf Go.Sort Hb
set_option linter.unusedVariables false
set_option linter.unusedSimpArgs false
/-! ### the reference's New: the list -/
def rPs : List Nat := [1200, 1200, 1100, 1050, 1000, 900, 760, 700, 500, 450, 400, 200, 200, 200, 200]
def rKs : List Nat := [3, 1, 4, 4, 4, 2, 5, 3, 5, 3, 5, 3, 4, 2, 4]
def rNs : List (List UInt8) := [[58, 45, 32, 45, 45, 62], [58, 45, 32, 63, 45], [59, 32, 124], [45, 62], [44], [92, 43], [35, 60, 61, 61, 62], [61, 32, 92, 61, 32, 61, 61, 32, 92, 61, 61, 32, 64, 60, 32, 64, 61, 60, 32, 64, 62, 32, 64, 62, 61, 32, 61, 46, 46, 32, 105, 115, 32, 61, 58, 61, 32, 61, 92, 61, 32, 60, 32, 61, 60, 32, 62, 32, 62, 61, 32, 105, 110, 32, 105, 110, 115, 32, 35, 61, 32, 35, 92, 61, 32, 35, 60, 32, 35, 61, 60, 32, 35, 62, 32, 35, 62, 61], [43, 32, 45, 32, 47, 92, 32, 92, 47], [46, 46], [42, 32, 47, 32, 47, 47, 32, 114, 101, 109, 32, 109, 111, 100, 32, 100, 105, 118, 32, 60, 60, 32, 62, 62, 32, 120, 111, 114], [42, 42], [94], [45, 32, 43, 32, 92], [58]]
def rWs : List (List (List UInt8)) := [[[58, 45], [45, 45, 62]], [[58, 45], [63, 45]], [[59], [124]], [[45, 62]], [[44]], [[92, 43]], [[35, 60, 61, 61, 62]], [[61], [92, 61], [61, 61], [92, 61, 61], [64, 60], [64, 61, 60], [64, 62], [64, 62, 61], [61, 46, 46], [105, 115], [61, 58, 61], [61, 92, 61], [60], [61, 60], [62], [62, 61], [105, 110], [105, 110, 115], [35, 61], [35, 92, 61], [35, 60], [35, 61, 60], [35, 62], [35, 62, 61]], [[43], [45], [47, 92], [92, 47]], [[46, 46]], [[42], [47], [47, 47], [114, 101, 109], [109, 111, 100], [100, 105, 118], [60, 60], [62, 62], [120, 111, 114]], [[42, 42]], [[94]], [[45], [43], [92]], [[58]]]
def rRow (i : Nat) : List OpV := (rWs.getD i []).map fun n => ⟨n, (rKs.getD i 0 : Nat), (rPs.getD i 0 : Nat)⟩
def rRows : Nat → List OpV | 0 => [] | i + 1 => rRows i ++ rRow i
def R0 : List OpV := rRows 15
theorem r_words : ∀ i, i < 15 → rwords (rNs.getD i []) = rWs.getD i [] := by decide +kernel
theorem find_perm {L M : List OpV} (h : Uq L) (hp : L.Perm M) (c : Nat) (n : List UInt8) : Ho.find L c n = Ho.find M c n := by
  have hM := h.perm hp
  have key : ∀ {A B : List OpV}, Uq A → Uq B → A.Perm B → ∀ x, Ho.find A c n = some x → Ho.find B c n = some x := by
    intro A B hA hB hp x hx
    obtain ⟨h1, h2, h3⟩ := find_some hx
    cases hf : Ho.find B c n with
    | none =>
      have h9 := List.find?_eq_none.1 hf x (hp.mem_iff.1 h1)
      exact absurd (isK_iff.2 ⟨h2, h3⟩) h9
    | some y =>
      obtain ⟨g1, g2, g3⟩ := find_some hf
      have hxB := hp.mem_iff.1 h1
      rcases Classical.em (x = y) with e | e
      · rw [e]
      · exfalso
        obtain ⟨i, hi, ei⟩ := List.getElem_of_mem hxB
        obtain ⟨j, hj, ej⟩ := List.getElem_of_mem g1
        have hpw := List.pairwise_iff_getElem.1 hB
        rcases Nat.lt_trichotomy i j with hl | hl | hl
        · exact hpw i j hi hj hl (by rw [ei, ej]; exact ⟨h2.trans g2.symm, h3.trans g3.symm⟩)
        · subst hl; exact e (ei.symm.trans ej)
        · exact hpw j i hj hi hl (by rw [ei, ej]; exact ⟨g2.trans h2.symm, g3.trans h3.symm⟩)
  cases hf : Ho.find L c n with
  | some x => exact (key h hM hp x hf).symm
  | none =>
    cases hg : Ho.find M c n with
    | none => rfl
    | some y => rw [key hM h hp.symm y hg] at hf; cases hf
theorem r0_perm : L0.Perm R0 := List.isPerm_iff.1 (by decide +kernel)
theorem r0_find (c : Nat) (n : List UInt8) : Ho.find R0 c n = Ho.find L0 c n := (find_perm inv_L0.uq r0_perm c n).symm
theorem inv_R0 : Inv R0 where
  uq := inv_L0.uq.perm r0_perm
  cl := fun x hx => inv_L0.cl x (r0_perm.mem_iff.2 hx)
  comma := by rw [r0_find]; exact inv_L0.comma
  pr := fun x hx => inv_L0.pr x (r0_perm.mem_iff.2 hx)
  apart n := by rw [r0_find, r0_find]; exact inv_L0.apart n
theorem TabAt.r0 {w : World} {g b1 b2 b3 N : Nat} (h : TabAt w g b1 b2 b3 N L0) : TabAt w g b1 b2 b3 N R0 := by
  obtain ⟨h0, m1, m2, m3, hd⟩ := h
  exact ⟨h0, m1.same (r0_find 1), m2.same (r0_find 2), m3.same (r0_find 3), hd⟩
theorem R0_len : R0.length = L0.length := r0_perm.length_eq.symm
end Go.Proofs.YtfdcponamkfcaaaDoor

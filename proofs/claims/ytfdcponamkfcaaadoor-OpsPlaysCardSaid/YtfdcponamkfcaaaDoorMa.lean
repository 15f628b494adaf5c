/-
  Insertion, plainly. No program in sight.
-/
import Derived.Test.YtfdcponamkfcaaaDoorNa
namespace Ho
def atO (M : List OpV) (i : Nat) : OpV := (M[i]?).getD ⟨[], 0, 0⟩
theorem atO_set {M : List OpV} {i j : Nat} {y : OpV} (hi : i < M.length) : atO (M.set i y) j = if j = i then y else atO M j := by
  unfold atO
  rw [List.getElem?_set]
  by_cases h : i = j
  · subst h; simp [hi]
  · have : ¬ j = i := fun e => h e.symm
    simp [h, this]
def swO (M : List OpV) (j : Nat) : List OpV := (M.set (j + 1) (atO M j)).set j (atO M (j + 1))
theorem swO_at {M : List OpV} {j : Nat} (h : j + 1 < M.length) (a : Nat) : atO (swO M j) a = if a = j then atO M (j + 1) else if a = j + 1 then atO M j else atO M a := by
  unfold swO
  rw [atO_set (by simp; omega), atO_set h]
theorem swO_len (M : List OpV) (j : Nat) : (swO M j).length = M.length := by simp [swO]
theorem swO_split {M : List OpV} {j : Nat} (h : j + 1 < M.length) : M = M.take j ++ atO M j :: atO M (j + 1) :: M.drop (j + 2) := by
  have e1 : M.drop j = M[j] :: M.drop (j + 1) := List.drop_eq_getElem_cons (by omega)
  have e2 : M.drop (j + 1) = M[j + 1] :: M.drop (j + 2) := List.drop_eq_getElem_cons h
  have a1 : atO M j = M[j] := by unfold atO; rw [List.getElem?_eq_getElem (by omega)]; rfl
  have a2 : atO M (j + 1) = M[j + 1] := by unfold atO; rw [List.getElem?_eq_getElem h]; rfl
  rw [a1, a2, ← e2, ← e1, List.take_append_drop]
theorem swO_perm {M : List OpV} {j : Nat} (h : j + 1 < M.length) : (swO M j).Perm M := by
  obtain ⟨x, hx⟩ : ∃ x, atO M j = x := ⟨_, rfl⟩
  obtain ⟨y, hy⟩ : ∃ y, atO M (j + 1) = y := ⟨_, rfl⟩
  have hs := swO_split h
  have hl : (M.take j).length = j := by rw [List.length_take]; omega
  have e : swO M j = M.take j ++ y :: x :: M.drop (j + 2) := by
    unfold swO
    rw [hx, hy] at *
    generalize M.take j = pre at *
    generalize M.drop (j + 2) = post at *
    rw [hs, List.set_append_right _ _ (by omega), List.set_append_right _ _ (by omega)]
    rw [show j + 1 - pre.length = 1 by omega, show j - pre.length = 0 by omega]
    rfl
  rw [e]
  conv => rhs; rw [hs]
  rw [hx, hy]
  exact List.Perm.append_left _ (List.Perm.swap ..)
/-- sorted up to i -/
def SoTo (M : List OpV) (i : Nat) : Prop := ∀ a b, a < b → b < i → cmpO (atO M a) (atO M b) ≤ 0
/-- in the course of an insertion: all but k in order, k less than those behind it -/
structure InsO (M : List OpV) (i k : Nat) : Prop where
  le : k ≤ i
  lt : i < M.length
  oth : ∀ a b, a < b → b ≤ i → a ≠ k → b ≠ k → cmpO (atO M a) (atO M b) ≤ 0
  beh : ∀ b, k < b → b ≤ i → cmpO (atO M k) (atO M b) ≤ 0
theorem InsO.start {M : List OpV} {i : Nat} (h : SoTo M i) (hi : i < M.length) : InsO M i i :=
  ⟨Nat.le_refl _, hi, fun a b hab hb _ hbk => h a b hab (by omega), fun b hb hb2 => by omega⟩
theorem InsO.step {M : List OpV} {i j : Nat} (h : InsO M i (j + 1)) (hc : cmpO (atO M (j + 1)) (atO M j) < 0) : InsO (swO M j) i j := by
  have hl := h.lt
  have hle := h.le
  have hs : j + 1 < M.length := by omega
  refine ⟨by omega, by rw [swO_len]; exact hl, fun a b hab hb ha hbj => ?_, fun b hb hb2 => ?_⟩
  · rw [swO_at hs, swO_at hs, if_neg ha, if_neg hbj]
    by_cases e1 : a = j + 1
    · rw [if_pos e1, if_neg (by omega)]
      exact h.oth j b (by omega) hb (by omega) (by omega)
    · rw [if_neg e1]
      by_cases e2 : b = j + 1
      · rw [if_pos e2]
        exact h.oth a j (by omega) (by omega) (by omega) (by omega)
      · rw [if_neg e2]
        exact h.oth a b hab hb e1 e2
  · rw [swO_at hs, swO_at hs, if_pos rfl, if_neg (by omega)]
    by_cases e2 : b = j + 1
    · rw [if_pos e2]; omega
    · rw [if_neg e2]
      exact h.beh b (by omega) hb2
theorem InsO.stop {M : List OpV} {i k : Nat} (h : InsO M i k) (hc : k = 0 ∨ ¬ cmpO (atO M k) (atO M (k - 1)) < 0) : SoTo M (i + 1) := by
  intro a b hab hb
  by_cases ha : a = k
  · rw [ha]; exact h.beh b (by omega) (by omega)
  · by_cases hbk : b = k
    · subst hbk
      have h0 : b ≠ 0 := by omega
      have hc2 := hc.resolve_left h0
      have h3 : cmpO (atO M (b - 1)) (atO M b) ≤ 0 := by have := cmpO_swap (atO M (b - 1)) (atO M b); omega
      by_cases e : a = b - 1
      · rw [e]; exact h3
      · exact cmpO_le_trans (h.oth a (b - 1) (by omega) (by omega) ha (by omega)) h3
    · exact h.oth a b hab (by omega) ha hbk
theorem SoTo.srt {M L : List OpV} (h : SoTo M M.length) (hp : M.Perm L) (hu : Uq L) : M = srt L := by
  refine srt_unique hp hu ?_
  rw [List.pairwise_iff_getElem]
  intro i j hi hj hij
  have h1 := h i j hij hj
  unfold atO at h1
  rw [List.getElem?_eq_getElem hi, List.getElem?_eq_getElem hj] at h1
  exact h1
end Ho

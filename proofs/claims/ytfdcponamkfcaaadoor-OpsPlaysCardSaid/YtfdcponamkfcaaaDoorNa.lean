/-
  The order of operators: by names, then by classes; the sorted list of a table. No program in sight.
-/
import Derived.Lib.Bytealg
import Derived.Sort.Statements
import Derived.Test.YtfdcponamkfcaaaDoorOs
namespace Ho
open Go Go.Lib
instance : Inhabited OpV := ⟨⟨[], 0, 0⟩⟩
theorem cb_refl : ∀ a, compareBytes a a = 0
  | [] => rfl
  | a :: as => by
    unfold compareBytes
    rw [if_neg (by rw [UInt8.lt_iff_toNat_lt]; omega), if_neg (by rw [UInt8.lt_iff_toNat_lt]; omega)]
    exact cb_refl as
theorem cb_swap : ∀ a b, compareBytes b a = - compareBytes a b
  | [], [] => rfl
  | [], _ :: _ => rfl
  | _ :: _, [] => rfl
  | a :: as, b :: bs => by
    unfold compareBytes
    by_cases h1 : a < b
    · have h2 : ¬ b < a := by rw [UInt8.lt_iff_toNat_lt] at h1 ⊢; omega
      rw [if_neg h2, if_pos h1, if_pos h1]; rfl
    · by_cases h2 : b < a
      · rw [if_pos h2, if_neg h1, if_pos h2]
      · rw [if_neg h2, if_neg h1, if_neg h1, if_neg h2]
        exact cb_swap as bs
theorem cb_zero : ∀ a b, compareBytes a b = 0 → a = b
  | [], [], _ => rfl
  | [], _ :: _, h => by simp [compareBytes] at h
  | _ :: _, [], h => by simp [compareBytes] at h
  | a :: as, b :: bs, h => by
    unfold compareBytes at h
    by_cases h1 : a < b
    · rw [if_pos h1] at h; simp at h
    · by_cases h2 : b < a
      · rw [if_neg h1, if_pos h2] at h; simp at h
      · rw [if_neg h1, if_neg h2] at h
        rw [UInt8.lt_iff_toNat_lt] at h1 h2
        have e : a = b := UInt8.toNat_inj.1 (by omega)
        rw [e, cb_zero as bs h]
theorem cb_trans : ∀ a b c, compareBytes a b < 0 → compareBytes b c < 0 → compareBytes a c < 0
  | [], [], _, h, _ => by simp [compareBytes] at h
  | [], _ :: _, [], _, h => by simp [compareBytes] at h
  | [], _ :: _, _ :: _, _, _ => by simp [compareBytes]
  | _ :: _, [], _, h, _ => by simp [compareBytes] at h
  | _ :: _, _ :: _, [], _, h => by simp [compareBytes] at h
  | a :: as, b :: bs, c :: cs, h, k => by
    unfold compareBytes at h k ⊢
    by_cases h1 : a < b
    · by_cases k1 : b < c
      · rw [if_pos (by rw [UInt8.lt_iff_toNat_lt] at *; omega)]; decide
      · by_cases k2 : c < b
        · rw [if_neg k1, if_pos k2] at k; simp at k
        · rw [if_pos (by rw [UInt8.lt_iff_toNat_lt] at *; omega)]; decide
    · by_cases h2 : b < a
      · rw [if_neg h1, if_pos h2] at h; simp at h
      · by_cases k1 : b < c
        · rw [if_pos (by rw [UInt8.lt_iff_toNat_lt] at *; omega)]; decide
        · by_cases k2 : c < b
          · rw [if_neg k1, if_pos k2] at k; simp at k
          · rw [if_neg h1, if_neg h2] at h
            rw [if_neg k1, if_neg k2] at k
            rw [if_neg (by rw [UInt8.lt_iff_toNat_lt] at *; omega), if_neg (by rw [UInt8.lt_iff_toNat_lt] at *; omega)]
            exact cb_trans as bs cs h k
/-- what the closure of All answers -/
def cmpO (x y : OpV) : Int := if x.n = y.n then (cls x.t : Int) - cls y.t else compareBytes x.n y.n
theorem cmpO_swap (x y : OpV) : cmpO y x = - cmpO x y := by
  unfold cmpO
  by_cases h : x.n = y.n
  · rw [if_pos h, if_pos h.symm]; omega
  · rw [if_neg h, if_neg (fun e => h e.symm), cb_swap]
theorem cmpO_zero {x y : OpV} (h : cmpO x y = 0) : x.n = y.n ∧ cls x.t = cls y.t := by
  unfold cmpO at h
  by_cases e : x.n = y.n
  · rw [if_pos e] at h; exact ⟨e, by omega⟩
  · rw [if_neg e] at h; exact absurd (cb_zero _ _ h) e
theorem cmpO_lt_trans {x y z : OpV} (h : cmpO x y < 0) (k : cmpO y z < 0) : cmpO x z < 0 := by
  unfold cmpO at *
  by_cases e : x.n = y.n
  · rw [if_pos e] at h
    by_cases f : y.n = z.n
    · rw [if_pos f] at k; rw [if_pos (e.trans f)]; omega
    · rw [if_neg f] at k; rw [if_neg (by rw [e]; exact f), e]; exact k
  · rw [if_neg e] at h
    by_cases f : y.n = z.n
    · rw [if_neg (by rw [← f]; exact e), ← f]; exact h
    · rw [if_neg f] at k
      have hk := cb_trans _ _ _ h k
      rw [if_neg (fun g => by rw [g, cb_refl] at hk; omega)]; exact hk
theorem cmpO_same {x y z : OpV} (h : cmpO x y = 0) : cmpO x z = cmpO y z := by
  obtain ⟨e, f⟩ := cmpO_zero h
  unfold cmpO; rw [e, f]
theorem cmpO_le_trans {x y z : OpV} (h : cmpO x y ≤ 0) (k : cmpO y z ≤ 0) : cmpO x z ≤ 0 := by
  by_cases e : cmpO x y = 0
  · rw [cmpO_same e]; exact k
  · by_cases f : cmpO y z = 0
    · have : cmpO x z = cmpO x y := by
        have h1 := cmpO_swap x z; have h2 := cmpO_swap x y
        have h3 : cmpO z y = 0 := by rw [cmpO_swap y z]; omega
        have h4 := cmpO_same (z := x) h3
        omega
      omega
    · have := cmpO_lt_trans (x := x) (y := y) (z := z) (by omega) (by omega); omega
theorem cmpO_self (x : OpV) : cmpO x x = 0 := by unfold cmpO; rw [if_pos rfl]; omega
def ltO (x y : OpV) : Bool := decide (cmpO x y < 0)
theorem swoO : Sort.SWO ltO where
  irrefl x := by unfold ltO; rw [cmpO_self]; rfl
  trans x y z h k := by
    unfold ltO at *
    exact decide_eq_true (cmpO_lt_trans (of_decide_eq_true h) (of_decide_eq_true k))
  ntrans x y z h k := by
    unfold ltO at *
    have h1 := of_decide_eq_false h
    have k1 := of_decide_eq_false k
    refine decide_eq_false fun e => ?_
    have := cmpO_swap x y; have := cmpO_swap y z; have := cmpO_swap x z
    have := cmpO_le_trans (x := z) (y := y) (z := x) (by omega) (by omega)
    omega
/-- the operators in All's order -/
def srt (L : List OpV) : List OpV := L.mergeSort (fun x y => decide (cmpO x y ≤ 0))
theorem srt_perm (L : List OpV) : (srt L).Perm L := List.mergeSort_perm L _
theorem srt_sorted (L : List OpV) : (srt L).Pairwise (fun x y => cmpO x y ≤ 0) := by
  have h := List.pairwise_mergeSort (le := fun x y => decide (cmpO x y ≤ 0)) (fun a b c h k => by
      simp only [decide_eq_true_eq] at *; exact cmpO_le_trans h k) (fun a b => by
      have := cmpO_swap a b
      by_cases h : cmpO a b ≤ 0
      · simp [h]
      · have h2 : cmpO b a ≤ 0 := by omega
        simp [h2]) L
  exact h.imp (fun h => of_decide_eq_true h)
theorem Uq.perm {L M : List OpV} (h : Uq L) (hp : L.Perm M) : Uq M := by
  unfold Uq at *
  exact hp.pairwise h (fun {x y} hxy e => hxy ⟨e.1.symm, e.2.symm⟩)
/-- two sorted lists of the same distinct operators are the same -/
theorem sorted_unique : ∀ {L M : List OpV}, L.Perm M → Uq L → L.Pairwise (fun x y => cmpO x y ≤ 0) → M.Pairwise (fun x y => cmpO x y ≤ 0) → L = M
  | [], M, hp, _, _, _ => (List.Perm.nil_eq hp)
  | x :: L, [], hp, _, _, _ => by have := hp.length_eq; simp at this
  | x :: L, y :: M, hp, hu, h1, h2 => by
    have e : x = y := by
      have hx : x ∈ y :: M := hp.subset (List.mem_cons_self ..)
      have hy : y ∈ x :: L := hp.symm.subset (List.mem_cons_self ..)
      rcases List.mem_cons.1 hx with rfl | hx
      · rfl
      rcases List.mem_cons.1 hy with rfl | hy
      · rfl
      have a := (List.pairwise_cons.1 h1).1 y hy
      have b := (List.pairwise_cons.1 h2).1 x hx
      have c := cmpO_swap x y
      have d := cmpO_zero (x := x) (y := y) (by omega)
      exact absurd d ((List.pairwise_cons.1 hu).1 y hy)
    subst e
    rw [sorted_unique (List.Perm.cons_inv hp) (List.pairwise_cons.1 hu).2 (List.pairwise_cons.1 h1).2 (List.pairwise_cons.1 h2).2]
theorem srt_unique {L M : List OpV} (hp : M.Perm L) (hu : Uq L) (hs : M.Pairwise (fun x y => cmpO x y ≤ 0)) : M = srt L :=
  sorted_unique (hp.trans (srt_perm L).symm) (hu.perm hp.symm) hs (srt_sorted L)
/-- out of the kit's word 'sorted' -/
theorem srt_of_sortedIn {d d' : Array OpV} {L : List OpV} (hp : Sort.PermIn 0 d.size d d') (hs : Sort.SortedIn ltO 0 d.size d') (hd : d.toList.Perm L) (hu : Uq L) : d'.toList = srt L := by
  obtain ⟨hz, _, hpp⟩ := hp
  have e1 : d.extract 0 d.size = d := by simp
  have e2 : d'.extract 0 d.size = d' := by rw [← hz]; simp
  rw [e1, e2] at hpp
  refine srt_unique (hpp.trans hd) hu ?_
  rw [List.pairwise_iff_getElem]
  intro i j hi hj hij
  have h := hs i j (Nat.zero_le _) hij (by rw [← hz]; simpa using hj)
  have h1 := of_decide_eq_false h
  have h2 := cmpO_swap d'[j]! d'[i]!
  have ei : d'[i]! = d'.toList[i] := by rw [getElem!_pos d' i (by simpa using hi)]; simp
  have ej : d'[j]! = d'.toList[j] := by rw [getElem!_pos d' j (by simpa using hj)]; simp
  rw [← ei, ← ej]
  omega
end Ho

/-
  Plain: a set times an integer, and the integers that are in a set when they are multiplied by one.
-/
import Derived.Test.YtpikjceodmepiaaQg
set_option linter.unusedVariables false
set_option linter.unusedSimpArgs false
namespace Hf
/-- q and m are x by n, cut downwards -/
def Cut (n x q m : Int) : Prop := x = q * n + m ∧ ((0 < n ∧ 0 ≤ m ∧ m < n) ∨ (n < 0 ∧ n < m ∧ m ≤ 0))
theorem mul_mono {a b n : Int} (hn : 0 ≤ n) (h : a ≤ b) : a * n ≤ b * n := Int.mul_le_mul_of_nonneg_right h hn
theorem mul_anti {a b n : Int} (hn : n ≤ 0) (h : a ≤ b) : b * n ≤ a * n := Int.mul_le_mul_of_nonpos_right h hn
theorem cut_le {n x q m k : Int} (h : Cut n x q m) (hn : 0 < n) : k * n ≤ x ↔ k ≤ q := by
  obtain ⟨e, h1 | h1⟩ := h
  · constructor
    · intro hk
      refine Int.not_lt.1 fun hlt => ?_
      have := mul_mono (n := n) (by omega) (show q + 1 ≤ k by omega)
      rw [Int.add_mul, Int.one_mul] at this
      omega
    · intro hk
      have := mul_mono (n := n) (by omega) hk
      omega
  · omega
theorem cut_ge {n x q m k : Int} (h : Cut n x q m) (hn : 0 < n) : x ≤ k * n ↔ (if m ≠ 0 then q + 1 else q) ≤ k := by
  obtain ⟨e, h1 | h1⟩ := h
  · by_cases hm : m = 0
    · rw [if_neg (by simpa using hm)]
      subst hm
      constructor
      · intro hk
        refine Int.not_lt.1 fun hlt => ?_
        have := mul_mono (n := n) (by omega) (show k + 1 ≤ q by omega)
        rw [Int.add_mul, Int.one_mul] at this
        omega
      · intro hk
        have := mul_mono (n := n) (by omega) hk
        omega
    · rw [if_pos hm]
      constructor
      · intro hk
        refine Int.not_lt.1 fun hlt => ?_
        have := mul_mono (n := n) (by omega) (show k ≤ q by omega)
        omega
      · intro hk
        have := mul_mono (n := n) (by omega) hk
        rw [Int.add_mul, Int.one_mul] at this
        omega
  · omega
theorem cut_neg {n x q m : Int} (h : Cut n x q m) : Cut (-n) (-x) q (-m) := by
  obtain ⟨e, h1⟩ := h
  refine ⟨by rw [Int.mul_neg]; omega, ?_⟩
  rcases h1 with h1 | h1
  · exact .inr (by omega)
  · exact .inl (by omega)
theorem cut_le' {n x q m k : Int} (h : Cut n x q m) (hn : n < 0) : x ≤ k * n ↔ k ≤ q := by
  rw [← cut_le (cut_neg h) (by omega) (k := k), Int.mul_neg]
  omega
theorem cut_ge' {n x q m k : Int} (h : Cut n x q m) (hn : n < 0) : k * n ≤ x ↔ (if m ≠ 0 then q + 1 else q) ≤ k := by
  have := cut_ge (k := k) (cut_neg h) (by omega)
  rw [Int.mul_neg] at this
  have e : (if -m ≠ 0 then q + 1 else q) = if m ≠ 0 then q + 1 else q := by
    by_cases hm : m = 0
    · subst hm; rfl
    · rw [if_pos hm, if_pos (by omega)]
  rw [e] at this
  rw [← this]
  omega
/-- an end times n -/
def mulE (n : Int) : Ed → Ed
  | .num x => .num (x * n)
  | .lo => if 0 < n then .lo else .hi
  | .hi => if 0 < n then .hi else .lo
def scR (n : Int) (r : R) : R := if 0 < n then (mulE n r.1, mulE n r.2) else (mulE n r.2, mulE n r.1)
theorem inR_sc {n k : Int} {r : R} (hn : n ≠ 0) : inR (k * n) (scR n r) ↔ inR k r := by
  obtain ⟨a, b⟩ := r
  unfold inR scR
  by_cases h : 0 < n
  · rw [if_pos h]
    have key : ∀ x : Int, (x * n ≤ k * n ↔ x ≤ k) ∧ (k * n ≤ x * n ↔ k ≤ x) := fun x => parts_scale h
    refine and_congr ?_ ?_
    · cases a with
      | lo => simp [mulE, h, lob]
      | hi => simp [mulE, h, lob]
      | num x => exact (key x).1
    · cases b with
      | lo => simp [mulE, h, hib]
      | hi => simp [mulE, h, hib]
      | num x => exact (key x).2
  · rw [if_neg h]
    have hneg : 0 < -n := by omega
    have key : ∀ x : Int, (x * n ≤ k * n ↔ k ≤ x) ∧ (k * n ≤ x * n ↔ x ≤ k) := fun x => by
      obtain ⟨h1, h2⟩ := parts_scale (n := -n) (k := k) (x := x) hneg
      rw [Int.mul_neg, Int.mul_neg] at h1 h2
      exact ⟨by rw [← h2]; omega, by rw [← h1]; omega⟩
    rw [and_comm]
    refine and_congr ?_ ?_
    · show hib (mulE n a) (k * n) ↔ lob a k
      cases a with
      | lo => simp [mulE, h, hib, lob]
      | hi => simp [mulE, h, hib, lob]
      | num x => exact (key x).2
    · show lob (mulE n b) (k * n) ↔ hib b k
      cases b with
      | lo => simp [mulE, h, hib, lob]
      | hi => simp [mulE, h, hib, lob]
      | num x => exact (key x).1
theorem mem_sc {n k : Int} {l : List R} (hn : n ≠ 0) : mem (k * n) (l.map (scR n)) ↔ mem k l := by
  simp only [mem, List.mem_map]
  constructor
  · rintro ⟨_, ⟨r, hr, rfl⟩, h⟩
    exact ⟨r, hr, (inR_sc hn).1 h⟩
  · rintro ⟨r, hr, h⟩
    exact ⟨_, ⟨r, hr, rfl⟩, (inR_sc hn).2 h⟩
/-- the least whose product is not below, the greatest whose product is not above -/
def upE (n : Int) (q m : Int → Int) : Ed → Ed
  | .num x => .num (if m x ≠ 0 then q x + 1 else q x)
  | .lo => if 0 < n then .lo else .hi
  | .hi => if 0 < n then .hi else .lo
def downE (n : Int) (q : Int → Int) : Ed → Ed
  | .num x => .num (q x)
  | .lo => if 0 < n then .lo else .hi
  | .hi => if 0 < n then .hi else .lo
def paR (n : Int) (q m : Int → Int) (r : R) : R := if 0 < n then (upE n q m r.1, downE n q r.2) else (upE n q m r.2, downE n q r.1)
theorem inR_pa {n k : Int} {q m : Int → Int} {r : R} (hn : n ≠ 0) (hq : ∀ x, Cut n x (q x) (m x)) : inR k (paR n q m r) ↔ inR (k * n) r := by
  obtain ⟨a, b⟩ := r
  unfold inR paR
  by_cases h : 0 < n
  · rw [if_pos h]
    refine and_congr ?_ ?_
    · cases a with
      | lo => simp [upE, h, lob]
      | hi => simp [upE, h, lob]
      | num x => exact (cut_ge (hq x) h).symm
    · cases b with
      | lo => simp [downE, h, hib]
      | hi => simp [downE, h, hib]
      | num x => exact (cut_le (hq x) h).symm
  · rw [if_neg h]
    have hneg : n < 0 := by omega
    rw [and_comm]
    refine and_congr ?_ ?_
    · show hib (downE n q a) k ↔ lob a (k * n)
      cases a with
      | lo => simp [downE, h, hib, lob]
      | hi => simp [downE, h, hib, lob]
      | num x => exact (cut_le' (hq x) hneg).symm
    · show lob (upE n q m b) k ↔ hib b (k * n)
      cases b with
      | lo => simp [upE, h, hib, lob]
      | hi => simp [upE, h, hib, lob]
      | num x => exact (cut_ge' (hq x) hneg).symm
theorem mem_pa {n k : Int} {q m : Int → Int} {l : List R} (hn : n ≠ 0) (hq : ∀ x, Cut n x (q x) (m x)) : mem k (l.map (paR n q m)) ↔ mem (k * n) l := by
  simp only [mem, List.mem_map]
  constructor
  · rintro ⟨_, ⟨r, hr, rfl⟩, h⟩
    exact ⟨r, hr, (inR_pa hn hq).1 h⟩
  · rintro ⟨r, hr, h⟩
    exact ⟨_, ⟨r, hr, rfl⟩, (inR_pa hn hq).2 h⟩
end Hf

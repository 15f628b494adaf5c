/-
  Plain: the next of a set; shifting; scaling and dividing again.
-/
import Derived.Test.YtpikjceodmepiaaQf
set_option linter.unusedVariables false
set_option linter.unusedSimpArgs false
namespace Hf
def nextP : List R → Ed → Option Ed
  | [], _ => none
  | r :: d, low => if leE low r.2 then some (if leE r.1 low then low else r.1) else nextP d low
theorem next_spec : ∀ {d : List R} {n : Int}, NF d →
    (nextP d (.num (n + 1)) = none ∧ ∀ k, mem k d → k ≤ n) ∨ (∃ k, nextP d (.num (n + 1)) = some (.num k) ∧ mem k d ∧ n < k ∧ ∀ q, mem q d → n < q → k ≤ q)
  | [], n, _ => .inl ⟨rfl, fun k h => (mem_nil h).elim⟩
  | r :: d, n, h => by
    obtain ⟨z, o1, o2⟩ := h.head
    by_cases c : leE (.num (n + 1)) r.2
    · refine .inr ?_
      by_cases c2 : leE r.1 (.num (n + 1))
      · rw [show nextP (r :: d) (.num (n + 1)) = some (.num (n + 1)) from (if_pos c).trans (by rw [if_pos c2])]
        refine ⟨n + 1, rfl, mem_cons.2 (.inl ?_), by omega, fun q _ h1 => by omega⟩
        exact inB_iff.1 (by unfold inB; simp [c, c2])
      · cases e : r.1 with
        | lo => rw [e] at c2; exact (c2 trivial).elim
        | hi => rw [e] at o1; exact o1.elim
        | num x =>
          rw [show nextP (r :: d) (.num (n + 1)) = some (.num x) from (if_pos c).trans (by rw [if_neg c2, e])]
          rw [e] at c2 o1
          have c2 : ¬ x ≤ n + 1 := c2
          have o1 : x ≤ z := o1
          refine ⟨x, rfl, mem_cons.2 (.inl ⟨by rw [e]; exact Int.le_refl x, hib_mono o2 o1⟩), by omega, fun q hq _ => ?_⟩
          have := h.below hq
          rw [e] at this
          exact this
    · rw [show nextP (r :: d) (.num (n + 1)) = nextP d (.num (n + 1)) from if_neg c]
      have hr : ∀ q, inR q r → q ≤ n := fun q hq => by
        cases e : r.2 with
        | hi => rw [e] at c; exact (c trivial).elim
        | lo => rw [e] at o2; exact o2.elim
        | num y =>
          rw [e] at c
          have c : ¬ n + 1 ≤ y := c
          have h2 := hq.2
          rw [e] at h2
          have h2 : q ≤ y := h2
          omega
      rcases next_spec (n := n) h.tail with ⟨h1, h2⟩ | ⟨k, h1, h2, h3, h4⟩
      · refine .inl ⟨h1, fun k hk => ?_⟩
        rcases mem_cons.1 hk with hk | hk
        · exact hr k hk
        · exact h2 k hk
      · refine .inr ⟨k, h1, mem_cons.2 (.inr h2), h3, fun q hq hlt => ?_⟩
        rcases mem_cons.1 hq with hq | hq
        · have := hr q hq; omega
        · exact h4 q hq hlt
def shE (n : Int) : Ed → Ed
  | .num x => .num (x + n)
  | e => e
def shR (n : Int) (r : R) : R := (shE n r.1, shE n r.2)
theorem inR_sh {n z : Int} {r : R} : inR z (shR n r) ↔ inR (z - n) r := by
  obtain ⟨a, b⟩ := r
  unfold inR shR
  refine and_congr ?_ ?_
  · cases a with
    | lo => exact Iff.rfl
    | hi => exact Iff.rfl
    | num x => show x + n ≤ z ↔ x ≤ z - n; omega
  · cases b with
    | lo => exact Iff.rfl
    | hi => exact Iff.rfl
    | num x => show z ≤ x + n ↔ z - n ≤ x; omega
theorem mem_sh {n z : Int} {l : List R} : mem z (l.map (shR n)) ↔ mem (z - n) l := by
  simp only [mem, List.mem_map]
  constructor
  · rintro ⟨_, ⟨r, hr, rfl⟩, h⟩
    exact ⟨r, hr, inR_sh.1 h⟩
  · rintro ⟨r, hr, h⟩
    exact ⟨_, ⟨r, hr, rfl⟩, inR_sh.2 h⟩
theorem NF_sh {n : Int} {l : List R} (h : NF l) : NF (l.map (shR n)) := by
  obtain ⟨h1, h2⟩ := NF.iff.1 h
  refine NF.iff.2 ⟨fun r hr => ?_, List.pairwise_map.2 (h2.imp fun {r s} hs => ?_)⟩
  · obtain ⟨q, hq, rfl⟩ := List.mem_map.1 hr
    obtain ⟨z, hz⟩ := h1 q hq
    exact ⟨z + n, inR_sh.2 (by rw [show z + n - n = z by omega]; exact hz)⟩
  · obtain ⟨y, x, e1, e2, h⟩ := hs
    exact ⟨y + n, x + n, by show shE n r.2 = _; rw [e1]; rfl, by show shE n s.1 = _; rw [e2]; rfl, by omega⟩
/-- scaled by n > 0, and divided again -/
theorem parts_scale {n k x : Int} (hn : 0 < n) : (x * n ≤ k * n ↔ x ≤ k) ∧ (k * n ≤ x * n ↔ k ≤ x) :=
  ⟨⟨fun h => Int.le_of_mul_le_mul_right h hn, fun h => Int.mul_le_mul_of_nonneg_right h (Int.le_of_lt hn)⟩, ⟨fun h => Int.le_of_mul_le_mul_right h hn, fun h => Int.mul_le_mul_of_nonneg_right h (Int.le_of_lt hn)⟩⟩
end Hf

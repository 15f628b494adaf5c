/-
  Plain: how many a finite set has, counted by one who goes from each to the next.
-/
import Derived.Test.YtpikjceodmepiaaQe
set_option linter.unusedVariables false
set_option linter.unusedSimpArgs false
namespace Hf
def fin (l : List R) : Prop := ∀ r ∈ l, ∃ x y, r = (.num x, .num y)
def cnt1 (n : Int) : R → Int
  | (.num x, .num y) => max 0 (min y n - x + 1)
  | _ => 0
def cnt (n : Int) : List R → Int
  | [] => 0
  | r :: l => cnt1 n r + cnt n l
def size1 : R → Int
  | (.num x, .num y) => y - x + 1
  | _ => 0
def sizeP : List R → Int
  | [] => 0
  | r :: l => size1 r + sizeP l
theorem cnt_above {l : List R} {z : Int} (hf : fin l) (h : ∀ k, mem k l → z < k) (hok : ∀ r ∈ l, ok r) : cnt z l = 0 := by
  induction l with
  | nil => rfl
  | cons r l ih =>
    obtain ⟨x, y, rfl⟩ := hf r List.mem_cons_self
    obtain ⟨k, h1, h2⟩ := hok _ List.mem_cons_self
    have h1 : x ≤ k := h1
    have h2 : k ≤ y := h2
    have h3 : z < x := h x (mem_cons.2 (.inl ⟨Int.le_refl x, show x ≤ y by omega⟩))
    have := ih (fun r hr => hf r (List.mem_cons_of_mem _ hr)) (fun k hk => h k (mem_cons.2 (.inr hk))) (fun r hr => hok r (List.mem_cons_of_mem _ hr))
    show max 0 (min y z - x + 1) + cnt z l = 0
    rw [this]
    omega
theorem cnt_all {l : List R} {z : Int} (hf : fin l) (h : ∀ k, mem k l → k ≤ z) (hok : ∀ r ∈ l, ok r) : cnt z l = sizeP l := by
  induction l with
  | nil => rfl
  | cons r l ih =>
    obtain ⟨x, y, rfl⟩ := hf r List.mem_cons_self
    obtain ⟨k, h1, h2⟩ := hok _ List.mem_cons_self
    have h1 : x ≤ k := h1
    have h2 : k ≤ y := h2
    have h3 : y ≤ z := h y (mem_cons.2 (.inl ⟨show x ≤ y by omega, Int.le_refl y⟩))
    have := ih (fun r hr => hf r (List.mem_cons_of_mem _ hr)) (fun k hk => h k (mem_cons.2 (.inr hk))) (fun r hr => hok r (List.mem_cons_of_mem _ hr))
    show max 0 (min y z - x + 1) + cnt z l = y - x + 1 + sizeP l
    rw [this]
    omega
/-- one step to the next counts one more -/
theorem cnt_next : ∀ {l : List R} {z z' : Int}, NF l → fin l → mem z l → mem z' l → z < z' → (∀ k, mem k l → z < k → z' ≤ k) → cnt z' l = cnt z l + 1
  | [], _, _, _, _, h, _, _, _ => (mem_nil h).elim
  | r :: l, z, z', hl, hf, hz, hz', hlt, hn => by
    obtain ⟨x, y, rfl⟩ := hf r List.mem_cons_self
    have hf' : fin l := fun r hr => hf r (List.mem_cons_of_mem _ hr)
    have hokl := (NF.iff.1 hl.tail).1
    have hab : ∀ k, mem k l → y + 1 < k := fun k hk => by
      obtain ⟨y', e, h⟩ := hl.above hk
      injection e with e
      omega
    show max 0 (min y z' - x + 1) + cnt z' l = max 0 (min y z - x + 1) + cnt z l + 1
    rcases mem_cons.1 hz' with h | h
    · have h1 : x ≤ z' := h.1
      have h2 : z' ≤ y := h.2
      rw [cnt_above hf' (fun k hk => by have := hab k hk; omega) hokl, cnt_above hf' (fun k hk => by have := hab k hk; omega) hokl]
      by_cases hx : x ≤ z
      · have := hn (z + 1) (mem_cons.2 (.inl ⟨show x ≤ z + 1 by omega, show z + 1 ≤ y by omega⟩)) (by omega)
        omega
      · have := hn x (mem_cons.2 (.inl ⟨Int.le_refl x, show x ≤ y by omega⟩)) (by omega)
        omega
    · have h3 := hab z' h
      have hy : z ≥ y := by
        refine Int.not_lt.1 fun k => ?_
        obtain ⟨q, q1, q2⟩ := hl.head
        have q1 : x ≤ q := q1
        have q2 : q ≤ y := q2
        have := hn y (mem_cons.2 (.inl ⟨show x ≤ y by omega, Int.le_refl y⟩)) k
        omega
      have e1 : cnt z' l = cnt z l + 1 := by
        by_cases hzl : mem z l
        · exact cnt_next hl.tail hf' hzl h hlt fun k hk => hn k (mem_cons.2 (.inr hk))
        · -- z ends the first range: z' is the least of the rest
          have hz2 : inR z (.num x, .num y) := (mem_cons.1 hz).resolve_right hzl
          have : z ≤ y := hz2.2
          rw [cnt_above (z := z) hf' (fun k hk => by have := hab k hk; omega) hokl]
          -- z' is the least member of l
          cases l with
          | nil => exact (mem_nil h).elim
          | cons s m =>
            obtain ⟨x2, y2, rfl⟩ := hf' s List.mem_cons_self
            obtain ⟨q, q1, q2⟩ := hl.tail.head
            have q1 : x2 ≤ q := q1
            have q2 : q ≤ y2 := q2
            have hmx : mem x2 ((Ed.num x2, Ed.num y2) :: m) := mem_cons.2 (.inl ⟨Int.le_refl x2, show x2 ≤ y2 by omega⟩)
            have k1 := hn x2 (mem_cons.2 (.inr hmx)) (by have := hab x2 hmx; omega)
            have k2 : x2 ≤ z' := hl.tail.below h
            obtain rfl : z' = x2 := by omega
            show max 0 (min y2 z' - z' + 1) + cnt z' m = 0 + 1
            rw [cnt_above (z := z') (fun r hr => hf' r (List.mem_cons_of_mem _ hr)) (fun k hk => by
              obtain ⟨y', e, h9⟩ := hl.tail.above hk
              injection e with e
              omega) (NF.iff.1 hl.tail.tail).1]
            omega
      rw [e1]
      omega
end Hf

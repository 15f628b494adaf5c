/-
  Plain: the document's way to the normal form (a sweep over the places where membership may turn).
-/
import Derived.Test.YtpikjceodmepiaaQb
set_option linter.unusedVariables false
set_option linter.unusedSimpArgs false
namespace Hf
def sweep (f : Int → Bool) : Option Ed → List Int → List R
  | none, [] => []
  | some e, [] => [(e, .hi)]
  | none, x :: t => if f x = true then sweep f (some (.num x)) t else sweep f none t
  | some e, x :: t => if f x = true then sweep f (some e) t else (e, .num (x - 1)) :: sweep f none t
theorem const_to {f : Int → Bool} {b : Int} {t : List Int} (hc : ∀ z, b ≤ z → z + 1 ∉ t → f (z + 1) = f z) : ∀ (n : Nat), (∀ x ∈ t, b + n < x) → f (b + n) = f b
  | 0, _ => by simp
  | n + 1, h => by
    have ih := const_to hc n fun x hx => by have := h x hx; omega
    have h1 := hc (b + n) (by omega) fun hm => by have := h _ hm; omega
    rw [show b + ((n + 1 : Nat) : Int) = b + n + 1 by omega, h1, ih]
theorem const_below {f : Int → Bool} {b : Int} {t : List Int} (hc : ∀ z, b ≤ z → z + 1 ∉ t → f (z + 1) = f z) {z : Int} (hz : b ≤ z) (h : ∀ x ∈ t, z < x) : f z = f b := by
  have := const_to hc (z - b).toNat (fun x hx => by have := h x hx; omega)
  rwa [show b + ((z - b).toNat : Int) = z by omega] at this
theorem sweep_spec {f : Int → Bool} : ∀ (t : List Int) (b : Int), (∀ x ∈ t, b < x) → t.Pairwise (· < ·) → (∀ z, b ≤ z → z + 1 ∉ t → f (z + 1) = f z) →
    (f b = false → NF (sweep f none t) ∧ (∀ z, mem z (sweep f none t) ↔ b ≤ z ∧ f z = true) ∧ ∀ r ∈ sweep f none t, ∃ y, r.1 = .num y ∧ b < y) ∧
    (∀ e, f b = true → lob e b → NF (sweep f (some e) t) ∧ (∀ z, mem z (sweep f (some e) t) ↔ (lob e z ∧ z ≤ b) ∨ (b ≤ z ∧ f z = true)) ∧ ∀ r ∈ sweep f (some e) t, r.1 = e ∨ ∃ y, r.1 = .num y ∧ b < y)
  | [], b, hb, hp, hc => by
    refine ⟨fun hf => ⟨trivial, fun z => ⟨fun h => (mem_nil h).elim, fun ⟨h1, h2⟩ => ?_⟩, by simp [sweep]⟩, fun e hf he => ⟨⟨b, he, trivial⟩, fun z => ?_, by simp [sweep]⟩⟩
    · rw [const_below hc h1 (by simp), hf] at h2
      cases h2
    · show mem z [(e, .hi)] ↔ _
      rw [mem_cons]
      constructor
      · rintro (h | h)
        · by_cases hz : z ≤ b
          · exact .inl ⟨h.1, hz⟩
          · exact .inr ⟨by omega, by rw [const_below hc (by omega) (by simp), hf]⟩
        · exact (mem_nil h).elim
      · rintro (h | h)
        · exact .inl ⟨h.1, trivial⟩
        · exact .inl ⟨lob_mono he h.1, trivial⟩
  | x :: t, b, hb, hp, hc => by
    obtain ⟨p1, p2⟩ := List.pairwise_cons.1 hp
    have hbx := hb x List.mem_cons_self
    have hcx : ∀ z, x ≤ z → z + 1 ∉ t → f (z + 1) = f z := fun z hz hm => hc z (by omega) fun h => by
      rcases List.mem_cons.1 h with h | h
      · omega
      · exact hm h
    have hbel : ∀ z, b ≤ z → z < x → f z = f b := fun z h1 h2 => const_below hc h1 fun y hy => by
      rcases List.mem_cons.1 hy with rfl | hy
      · exact h2
      · have := p1 y hy; omega
    obtain ⟨iA, iB⟩ := sweep_spec t x p1 p2 hcx
    refine ⟨fun hf => ?_, fun e hf he => ?_⟩
    · by_cases hx : f x = true
      · rw [show sweep f none (x :: t) = sweep f (some (.num x)) t from if_pos hx]
        obtain ⟨i1, i2, i3⟩ := iB (.num x) hx (Int.le_refl _)
        refine ⟨i1, fun z => ?_, fun r hr => ?_⟩
        · rw [i2]
          constructor
          · rintro (⟨h1, h2⟩ | ⟨h1, h2⟩)
            · have h1 : x ≤ z := h1
              obtain rfl : z = x := by omega
              exact ⟨by omega, hx⟩
            · exact ⟨by omega, h2⟩
          · rintro ⟨h1, h2⟩
            by_cases hz : z < x
            · rw [hbel z h1 hz, hf] at h2; cases h2
            · exact .inr ⟨by omega, h2⟩
        · rcases i3 r hr with h | ⟨y, h1, h2⟩
          · exact ⟨x, h, hbx⟩
          · exact ⟨y, h1, by omega⟩
      · rw [show sweep f none (x :: t) = sweep f none t from if_neg hx]
        obtain ⟨i1, i2, i3⟩ := iA (by simpa using hx)
        refine ⟨i1, fun z => ?_, fun r hr => ?_⟩
        · rw [i2]
          constructor
          · exact fun ⟨h1, h2⟩ => ⟨by omega, h2⟩
          · rintro ⟨h1, h2⟩
            by_cases hz : z < x
            · rw [hbel z h1 hz, hf] at h2; cases h2
            · exact ⟨by omega, h2⟩
        · obtain ⟨y, h1, h2⟩ := i3 r hr
          exact ⟨y, h1, by omega⟩
    · have hex : lob e x := lob_mono he (by omega)
      by_cases hx : f x = true
      · rw [show sweep f (some e) (x :: t) = sweep f (some e) t from if_pos hx]
        obtain ⟨i1, i2, i3⟩ := iB e hx hex
        refine ⟨i1, fun z => ?_, fun r hr => ?_⟩
        · rw [i2]
          constructor
          · rintro (⟨h1, h2⟩ | ⟨h1, h2⟩)
            · by_cases hz : z ≤ b
              · exact .inl ⟨h1, hz⟩
              · refine .inr ⟨by omega, ?_⟩
                by_cases hzx : z < x
                · rw [hbel z (by omega) hzx, hf]
                · obtain rfl : z = x := by omega
                  exact hx
            · exact .inr ⟨by omega, h2⟩
          · rintro (⟨h1, h2⟩ | ⟨h1, h2⟩)
            · exact .inl ⟨h1, by omega⟩
            · by_cases hzx : x ≤ z
              · exact .inr ⟨hzx, h2⟩
              · exact .inl ⟨lob_mono he h1, by omega⟩
        · rcases i3 r hr with h | ⟨y, h1, h2⟩
          · exact .inl h
          · exact .inr ⟨y, h1, by omega⟩
      · rw [show sweep f (some e) (x :: t) = (e, .num (x - 1)) :: sweep f none t from if_neg hx]
        have hx' : f x = false := by simpa using hx
        obtain ⟨i1, i2, i3⟩ := iA hx'
        have hok : ok (e, .num (x - 1)) := ⟨b, he, show b ≤ x - 1 by omega⟩
        refine ⟨NF.iff.2 ⟨fun r hr => ?_, List.pairwise_cons.2 ⟨fun r hr => ?_, (NF.iff.1 i1).2⟩⟩, fun z => ?_, fun r hr => ?_⟩
        · rcases List.mem_cons.1 hr with rfl | hr
          · exact hok
          · exact (NF.iff.1 i1).1 r hr
        · obtain ⟨y, h1, h2⟩ := i3 r hr
          exact ⟨x - 1, y, rfl, h1, by omega⟩
        · rw [mem_cons, i2]
          constructor
          · rintro (⟨h1, h2⟩ | ⟨h1, h2⟩)
            · have h2 : z ≤ x - 1 := h2
              by_cases hz : z ≤ b
              · exact .inl ⟨h1, hz⟩
              · exact .inr ⟨by omega, by rw [hbel z (by omega) (by omega), hf]⟩
            · exact .inr ⟨by omega, h2⟩
          · rintro (⟨h1, h2⟩ | ⟨h1, h2⟩)
            · exact .inl ⟨h1, show z ≤ x - 1 by omega⟩
            · by_cases hzx : z < x
              · exact .inl ⟨lob_mono he h1, show z ≤ x - 1 by omega⟩
              · exact .inr ⟨by omega, h2⟩
        · rcases List.mem_cons.1 hr with rfl | hr
          · exact .inl rfl
          · obtain ⟨y, h1, h2⟩ := i3 r hr
            exact .inr ⟨y, h1, by omega⟩
/-- the sweep from below all: normal, and just what f tells -/
theorem sweep_NF {f : Int → Bool} {t : List Int} {low : Bool} (hp : t.Pairwise (· < ·)) (hc : ∀ z, z + 1 ∉ t → f (z + 1) = f z) {b : Int} (hb : ∀ x ∈ t, b < x) (hl : ∀ z, z ≤ b → f z = low) :
    NF (sweep f (if low = true then some .lo else none) t) ∧ ∀ z, mem z (sweep f (if low = true then some .lo else none) t) ↔ f z = true := by
  obtain ⟨hA, hB⟩ := sweep_spec t b hb hp fun z _ => hc z
  cases low with
  | true =>
    rw [if_pos rfl]
    obtain ⟨h1, h2, _⟩ := hB .lo (hl b (Int.le_refl _)) trivial
    refine ⟨h1, fun z => ?_⟩
    rw [h2]
    constructor
    · rintro (⟨_, h⟩ | ⟨_, h⟩)
      · exact hl z h
      · exact h
    · intro h
      by_cases hz : z ≤ b
      · exact .inl ⟨trivial, hz⟩
      · exact .inr ⟨by omega, h⟩
  | false =>
    rw [if_neg (by simp)]
    obtain ⟨h1, h2, _⟩ := hA (hl b (Int.le_refl _))
    refine ⟨h1, fun z => ?_⟩
    rw [h2]
    constructor
    · exact And.right
    · intro h
      by_cases hz : z ≤ b
      · rw [hl z hz] at h; cases h
      · exact ⟨by omega, h⟩
end Hf

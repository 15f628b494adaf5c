/-
  Plain: sets of integers as lists of ranges with ends below and above all; the normal form is one.
-/
set_option linter.unusedVariables false
set_option linter.unusedSimpArgs false
namespace Hf
inductive Ed where
  | lo
  | num (z : Int)
  | hi
  deriving DecidableEq
/-- z is not below the end -/
def lob : Ed → Int → Prop
  | .lo, _ => True
  | .num x, z => x ≤ z
  | .hi, _ => False
/-- z is not above the end -/
def hib : Ed → Int → Prop
  | .lo, _ => False
  | .num y, z => z ≤ y
  | .hi, _ => True
abbrev R := Ed × Ed
def inR (z : Int) (r : R) : Prop := lob r.1 z ∧ hib r.2 z
def ok (r : R) : Prop := ∃ z, inR z r
def mem (z : Int) (l : List R) : Prop := ∃ r ∈ l, inR z r
def Sep (r s : R) : Prop := ∃ y x, r.2 = .num y ∧ s.1 = .num x ∧ y + 1 < x
def NF : List R → Prop
  | [] => True
  | [r] => ok r
  | r :: s :: l => ok r ∧ Sep r s ∧ NF (s :: l)
theorem lob_mono {e : Ed} {a b : Int} (h : lob e a) (hab : a ≤ b) : lob e b := by
  cases e with
  | lo => trivial
  | num x => exact Int.le_trans h hab
  | hi => exact h.elim
theorem hib_mono {e : Ed} {a b : Int} (h : hib e b) (hab : a ≤ b) : hib e a := by
  cases e with
  | lo => exact h.elim
  | num x => exact Int.le_trans hab h
  | hi => trivial
theorem mem_nil {z : Int} : ¬ mem z [] := fun ⟨_, h, _⟩ => by simp at h
theorem mem_cons {z : Int} {r : R} {l : List R} : mem z (r :: l) ↔ inR z r ∨ mem z l := by
  constructor
  · rintro ⟨s, hs, h⟩
    rcases List.mem_cons.1 hs with rfl | hs
    · exact .inl h
    · exact .inr ⟨s, hs, h⟩
  · rintro (h | ⟨s, hs, h⟩)
    · exact ⟨r, List.mem_cons_self, h⟩
    · exact ⟨s, List.mem_cons_of_mem _ hs, h⟩
theorem NF.head {r : R} {l : List R} (h : NF (r :: l)) : ok r := by
  cases l with
  | nil => exact h
  | cons s l => exact h.1
theorem NF.tail {r : R} {l : List R} (h : NF (r :: l)) : NF l := by
  cases l with
  | nil => trivial
  | cons s l => exact h.2.2
/-- what follows a range lies beyond its end, with a gap -/
theorem NF.above {r : R} {l : List R} (h : NF (r :: l)) {z : Int} (hz : mem z l) : ∃ y, r.2 = .num y ∧ y + 1 < z := by
  induction l generalizing r with
  | nil => exact (mem_nil hz).elim
  | cons s l ih =>
    obtain ⟨⟨_, _⟩, ⟨y, x, e1, e2, hyx⟩, hs⟩ := h
    refine ⟨y, e1, ?_⟩
    rcases mem_cons.1 hz with hz | hz
    · have h1 := hz.1
      rw [e2] at h1
      change x ≤ z at h1
      omega
    · obtain ⟨y2, e3, h3⟩ := ih hs hz
      obtain ⟨z2, h4, h5⟩ := hs.head
      rw [e2] at h4
      rw [e3] at h5
      change x ≤ z2 at h4
      change z2 ≤ y2 at h5
      omega
/-- none lies below the first range's lower end -/
theorem NF.below {r : R} {l : List R} (h : NF (r :: l)) {z : Int} (hz : mem z (r :: l)) : lob r.1 z := by
  rcases mem_cons.1 hz with hz | hz
  · exact hz.1
  · obtain ⟨y, e1, h1⟩ := h.above hz
    obtain ⟨z2, h4, h5⟩ := h.head
    rw [e1] at h5
    change z2 ≤ y at h5
    exact lob_mono h4 (by omega)
theorem low_eq {r s : R} {l m : List R} (hl : NF (r :: l)) (hm : NF (s :: m)) (h : ∀ z, mem z (r :: l) → mem z (s :: m)) (h' : ∀ z, mem z (s :: m) → mem z (r :: l)) : r.1 = s.1 := by
  have key : ∀ {r s : R} {l m : List R}, NF (r :: l) → NF (s :: m) → (∀ z, mem z (r :: l) → mem z (s :: m)) → ∀ x, s.1 = .num x → ∃ x', r.1 = .num x' ∧ x ≤ x' := by
    intro r s l m hl hm h x hx
    obtain ⟨z, h1, h2⟩ := hl.head
    have hn : ∀ z, mem z (r :: l) → x ≤ z := fun z hz => by
      have := hm.below (h z hz)
      rw [hx] at this
      exact this
    obtain ⟨a, b⟩ := r
    cases a with
    | lo =>
      have hz : inR (min z (x - 1)) (Ed.lo, b) := ⟨trivial, hib_mono h2 (by omega)⟩
      have := hn _ (mem_cons.2 (.inl hz))
      omega
    | num x' =>
      refine ⟨x', rfl, hn _ (mem_cons.2 (.inl ⟨Int.le_refl _, hib_mono h2 h1⟩))⟩
    | hi => exact h1.elim
  have hi1 : r.1 ≠ .hi := fun e => by obtain ⟨z, h1, _⟩ := hl.head; rw [e] at h1; exact h1
  have hi2 : s.1 ≠ .hi := fun e => by obtain ⟨z, h1, _⟩ := hm.head; rw [e] at h1; exact h1
  cases e1 : r.1 with
  | hi => exact (hi1 e1).elim
  | lo =>
    cases e2 : s.1 with
    | hi => exact (hi2 e2).elim
    | lo => rfl
    | num x =>
      obtain ⟨x', e3, _⟩ := key hl hm h x e2
      rw [e1] at e3
      cases e3
  | num a =>
    obtain ⟨b, e2, h2⟩ := key hm hl h' a e1
    obtain ⟨a', e3, h3⟩ := key hl hm h b e2
    rw [e1] at e3
    injection e3 with e3
    rw [e2]
    congr 1
    omega
theorem high_eq {r s : R} {l m : List R} (hl : NF (r :: l)) (hm : NF (s :: m)) (h : ∀ z, mem z (r :: l) → mem z (s :: m)) (h' : ∀ z, mem z (s :: m) → mem z (r :: l)) (hlo : r.1 = s.1) : r.2 = s.2 := by
  have key : ∀ {r s : R} {l m : List R}, NF (r :: l) → NF (s :: m) → (∀ z, mem z (r :: l) → mem z (s :: m)) → r.1 = s.1 → ∀ y, s.2 = .num y → ∃ y', r.2 = .num y' ∧ y' ≤ y := by
    intro r s l m hl hm h hlo y hy
    obtain ⟨z, h1, h2⟩ := hl.head
    obtain ⟨z', h3, h4⟩ := hm.head
    rw [hy] at h4
    change z' ≤ y at h4
    -- one beyond s is not there
    have hno : ¬ mem (y + 1) (s :: m) := fun hz => by
      rcases mem_cons.1 hz with hz | hz
      · have := hz.2
        rw [hy] at this
        change y + 1 ≤ y at this
        omega
      · obtain ⟨y2, e3, h5⟩ := hm.above hz
        rw [hy] at e3
        injection e3 with e3
        omega
    have hlb : lob r.1 (y + 1) := by rw [hlo]; exact lob_mono h3 (by omega)
    cases e : r.2 with
    | lo => rw [e] at h2; exact h2.elim
    | hi => exact (hno (h _ (mem_cons.2 (.inl ⟨hlb, by rw [e]; trivial⟩)))).elim
    | num y' =>
      refine ⟨y', rfl, ?_⟩
      refine Int.not_lt.1 fun hlt => hno (h _ (mem_cons.2 (.inl ⟨hlb, ?_⟩)))
      rw [e]
      show y + 1 ≤ y'
      omega
  have lo1 : r.2 ≠ .lo := fun e => by obtain ⟨z, _, h1⟩ := hl.head; rw [e] at h1; exact h1
  have lo2 : s.2 ≠ .lo := fun e => by obtain ⟨z, _, h1⟩ := hm.head; rw [e] at h1; exact h1
  cases e1 : r.2 with
  | lo => exact (lo1 e1).elim
  | hi =>
    cases e2 : s.2 with
    | lo => exact (lo2 e2).elim
    | hi => rfl
    | num y =>
      obtain ⟨y', e3, _⟩ := key hl hm h hlo y e2
      rw [e1] at e3
      cases e3
  | num a =>
    obtain ⟨b, e2, h2⟩ := key hm hl h' hlo.symm a e1
    obtain ⟨a', e3, h3⟩ := key hl hm h hlo b e2
    rw [e1] at e3
    injection e3 with e3
    rw [e2]
    congr 1
    omega
/-- the normal form is one -/
theorem NF.uniq : ∀ {l m : List R}, NF l → NF m → (∀ z, mem z l ↔ mem z m) → l = m
  | [], [], _, _, _ => rfl
  | [], s :: m, _, hm, h => by
    obtain ⟨z, hz⟩ := hm.head
    exact (mem_nil ((h z).2 (mem_cons.2 (.inl hz)))).elim
  | r :: l, [], hl, _, h => by
    obtain ⟨z, hz⟩ := hl.head
    exact (mem_nil ((h z).1 (mem_cons.2 (.inl hz)))).elim
  | r :: l, s :: m, hl, hm, h => by
    have e1 := low_eq hl hm (fun z => (h z).1) (fun z => (h z).2)
    have e2 := high_eq hl hm (fun z => (h z).1) (fun z => (h z).2) e1
    obtain rfl : r = s := Prod.ext e1 e2
    congr 1
    refine NF.uniq hl.tail hm.tail fun z => ⟨fun hz => ?_, fun hz => ?_⟩
    · rcases mem_cons.1 ((h z).1 (mem_cons.2 (.inr hz))) with h1 | h1
      · obtain ⟨y, e3, h3⟩ := hl.above hz
        have := h1.2
        rw [e3] at this
        change z ≤ y at this
        omega
      · exact h1
    · rcases mem_cons.1 ((h z).2 (mem_cons.2 (.inr hz))) with h1 | h1
      · obtain ⟨y, e3, h3⟩ := hm.above hz
        have := h1.2
        rw [e3] at this
        change z ≤ y at this
        omega
      · exact h1
end Hf

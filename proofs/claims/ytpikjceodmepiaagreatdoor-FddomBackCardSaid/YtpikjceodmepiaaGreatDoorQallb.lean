set_option linter.unusedVariables false
set_option linter.unusedSimpArgs false

/-
  Plain: sets of integers as lists of ranges with ends below and above all; the normal form is one.
-/
set_option linter.unusedVariables false
set_option linter.unusedSimpArgs false
namespace Hf
inductive Ed where
  | lo
  | num (z : Int)
  | hi
  deriving DecidableEq
/-- z is not below the end -/
def lob : Ed → Int → Prop
  | .lo, _ => True
  | .num x, z => x ≤ z
  | .hi, _ => False
/-- z is not above the end -/
def hib : Ed → Int → Prop
  | .lo, _ => False
  | .num y, z => z ≤ y
  | .hi, _ => True
abbrev R := Ed × Ed
def inR (z : Int) (r : R) : Prop := lob r.1 z ∧ hib r.2 z
def ok (r : R) : Prop := ∃ z, inR z r
def mem (z : Int) (l : List R) : Prop := ∃ r ∈ l, inR z r
def Sep (r s : R) : Prop := ∃ y x, r.2 = .num y ∧ s.1 = .num x ∧ y + 1 < x
def NF : List R → Prop
  | [] => True
  | [r] => ok r
  | r :: s :: l => ok r ∧ Sep r s ∧ NF (s :: l)
theorem lob_mono {e : Ed} {a b : Int} (h : lob e a) (hab : a ≤ b) : lob e b := by
  cases e with
  | lo => trivial
  | num x => exact Int.le_trans h hab
  | hi => exact h.elim
theorem hib_mono {e : Ed} {a b : Int} (h : hib e b) (hab : a ≤ b) : hib e a := by
  cases e with
  | lo => exact h.elim
  | num x => exact Int.le_trans hab h
  | hi => trivial
theorem mem_nil {z : Int} : ¬ mem z [] := fun ⟨_, h, _⟩ => by simp at h
theorem mem_cons {z : Int} {r : R} {l : List R} : mem z (r :: l) ↔ inR z r ∨ mem z l := by
  constructor
  · rintro ⟨s, hs, h⟩
    rcases List.mem_cons.1 hs with rfl | hs
    · exact .inl h
    · exact .inr ⟨s, hs, h⟩
  · rintro (h | ⟨s, hs, h⟩)
    · exact ⟨r, List.mem_cons_self, h⟩
    · exact ⟨s, List.mem_cons_of_mem _ hs, h⟩
theorem NF.head {r : R} {l : List R} (h : NF (r :: l)) : ok r := by
  cases l with
  | nil => exact h
  | cons s l => exact h.1
theorem NF.tail {r : R} {l : List R} (h : NF (r :: l)) : NF l := by
  cases l with
  | nil => trivial
  | cons s l => exact h.2.2
/-- what follows a range lies beyond its end, with a gap -/
theorem NF.above {r : R} {l : List R} (h : NF (r :: l)) {z : Int} (hz : mem z l) : ∃ y, r.2 = .num y ∧ y + 1 < z := by
  induction l generalizing r with
  | nil => exact (mem_nil hz).elim
  | cons s l ih =>
    obtain ⟨⟨_, _⟩, ⟨y, x, e1, e2, hyx⟩, hs⟩ := h
    refine ⟨y, e1, ?_⟩
    rcases mem_cons.1 hz with hz | hz
    · have h1 := hz.1
      rw [e2] at h1
      change x ≤ z at h1
      omega
    · obtain ⟨y2, e3, h3⟩ := ih hs hz
      obtain ⟨z2, h4, h5⟩ := hs.head
      rw [e2] at h4
      rw [e3] at h5
      change x ≤ z2 at h4
      change z2 ≤ y2 at h5
      omega
/-- none lies below the first range's lower end -/
theorem NF.below {r : R} {l : List R} (h : NF (r :: l)) {z : Int} (hz : mem z (r :: l)) : lob r.1 z := by
  rcases mem_cons.1 hz with hz | hz
  · exact hz.1
  · obtain ⟨y, e1, h1⟩ := h.above hz
    obtain ⟨z2, h4, h5⟩ := h.head
    rw [e1] at h5
    change z2 ≤ y at h5
    exact lob_mono h4 (by omega)
theorem low_eq {r s : R} {l m : List R} (hl : NF (r :: l)) (hm : NF (s :: m)) (h : ∀ z, mem z (r :: l) → mem z (s :: m)) (h' : ∀ z, mem z (s :: m) → mem z (r :: l)) : r.1 = s.1 := by
  have key : ∀ {r s : R} {l m : List R}, NF (r :: l) → NF (s :: m) → (∀ z, mem z (r :: l) → mem z (s :: m)) → ∀ x, s.1 = .num x → ∃ x', r.1 = .num x' ∧ x ≤ x' := by
    intro r s l m hl hm h x hx
    obtain ⟨z, h1, h2⟩ := hl.head
    have hn : ∀ z, mem z (r :: l) → x ≤ z := fun z hz => by
      have := hm.below (h z hz)
      rw [hx] at this
      exact this
    obtain ⟨a, b⟩ := r
    cases a with
    | lo =>
      have hz : inR (min z (x - 1)) (Ed.lo, b) := ⟨trivial, hib_mono h2 (by omega)⟩
      have := hn _ (mem_cons.2 (.inl hz))
      omega
    | num x' =>
      refine ⟨x', rfl, hn _ (mem_cons.2 (.inl ⟨Int.le_refl _, hib_mono h2 h1⟩))⟩
    | hi => exact h1.elim
  have hi1 : r.1 ≠ .hi := fun e => by obtain ⟨z, h1, _⟩ := hl.head; rw [e] at h1; exact h1
  have hi2 : s.1 ≠ .hi := fun e => by obtain ⟨z, h1, _⟩ := hm.head; rw [e] at h1; exact h1
  cases e1 : r.1 with
  | hi => exact (hi1 e1).elim
  | lo =>
    cases e2 : s.1 with
    | hi => exact (hi2 e2).elim
    | lo => rfl
    | num x =>
      obtain ⟨x', e3, _⟩ := key hl hm h x e2
      rw [e1] at e3
      cases e3
  | num a =>
    obtain ⟨b, e2, h2⟩ := key hm hl h' a e1
    obtain ⟨a', e3, h3⟩ := key hl hm h b e2
    rw [e1] at e3
    injection e3 with e3
    rw [e2]
    congr 1
    omega
theorem high_eq {r s : R} {l m : List R} (hl : NF (r :: l)) (hm : NF (s :: m)) (h : ∀ z, mem z (r :: l) → mem z (s :: m)) (h' : ∀ z, mem z (s :: m) → mem z (r :: l)) (hlo : r.1 = s.1) : r.2 = s.2 := by
  have key : ∀ {r s : R} {l m : List R}, NF (r :: l) → NF (s :: m) → (∀ z, mem z (r :: l) → mem z (s :: m)) → r.1 = s.1 → ∀ y, s.2 = .num y → ∃ y', r.2 = .num y' ∧ y' ≤ y := by
    intro r s l m hl hm h hlo y hy
    obtain ⟨z, h1, h2⟩ := hl.head
    obtain ⟨z', h3, h4⟩ := hm.head
    rw [hy] at h4
    change z' ≤ y at h4
    -- one beyond s is not there
    have hno : ¬ mem (y + 1) (s :: m) := fun hz => by
      rcases mem_cons.1 hz with hz | hz
      · have := hz.2
        rw [hy] at this
        change y + 1 ≤ y at this
        omega
      · obtain ⟨y2, e3, h5⟩ := hm.above hz
        rw [hy] at e3
        injection e3 with e3
        omega
    have hlb : lob r.1 (y + 1) := by rw [hlo]; exact lob_mono h3 (by omega)
    cases e : r.2 with
    | lo => rw [e] at h2; exact h2.elim
    | hi => exact (hno (h _ (mem_cons.2 (.inl ⟨hlb, by rw [e]; trivial⟩)))).elim
    | num y' =>
      refine ⟨y', rfl, ?_⟩
      refine Int.not_lt.1 fun hlt => hno (h _ (mem_cons.2 (.inl ⟨hlb, ?_⟩)))
      rw [e]
      show y + 1 ≤ y'
      omega
  have lo1 : r.2 ≠ .lo := fun e => by obtain ⟨z, _, h1⟩ := hl.head; rw [e] at h1; exact h1
  have lo2 : s.2 ≠ .lo := fun e => by obtain ⟨z, _, h1⟩ := hm.head; rw [e] at h1; exact h1
  cases e1 : r.2 with
  | lo => exact (lo1 e1).elim
  | hi =>
    cases e2 : s.2 with
    | lo => exact (lo2 e2).elim
    | hi => rfl
    | num y =>
      obtain ⟨y', e3, _⟩ := key hl hm h hlo y e2
      rw [e1] at e3
      cases e3
  | num a =>
    obtain ⟨b, e2, h2⟩ := key hm hl h' hlo.symm a e1
    obtain ⟨a', e3, h3⟩ := key hl hm h hlo b e2
    rw [e1] at e3
    injection e3 with e3
    rw [e2]
    congr 1
    omega
/-- the normal form is one -/
theorem NF.uniq : ∀ {l m : List R}, NF l → NF m → (∀ z, mem z l ↔ mem z m) → l = m
  | [], [], _, _, _ => rfl
  | [], s :: m, _, hm, h => by
    obtain ⟨z, hz⟩ := hm.head
    exact (mem_nil ((h z).2 (mem_cons.2 (.inl hz)))).elim
  | r :: l, [], hl, _, h => by
    obtain ⟨z, hz⟩ := hl.head
    exact (mem_nil ((h z).1 (mem_cons.2 (.inl hz)))).elim
  | r :: l, s :: m, hl, hm, h => by
    have e1 := low_eq hl hm (fun z => (h z).1) (fun z => (h z).2)
    have e2 := high_eq hl hm (fun z => (h z).1) (fun z => (h z).2) e1
    obtain rfl : r = s := Prod.ext e1 e2
    congr 1
    refine NF.uniq hl.tail hm.tail fun z => ⟨fun hz => ?_, fun hz => ?_⟩
    · rcases mem_cons.1 ((h z).1 (mem_cons.2 (.inr hz))) with h1 | h1
      · obtain ⟨y, e3, h3⟩ := hl.above hz
        have := h1.2
        rw [e3] at this
        change z ≤ y at this
        omega
      · exact h1
    · rcases mem_cons.1 ((h z).2 (mem_cons.2 (.inr hz))) with h1 | h1
      · obtain ⟨y, e3, h3⟩ := hm.above hz
        have := h1.2
        rw [e3] at this
        change z ≤ y at this
        omega
      · exact h1
end Hf

/-
  Plain: the program's way to the normal form (sorted by the lower ends, then merged).
-/
set_option linter.unusedVariables false
set_option linter.unusedSimpArgs false
namespace Hf
def leE : Ed → Ed → Prop
  | .lo, _ => True
  | _, .hi => True
  | .num x, .num y => x ≤ y
  | _, _ => False
instance : (a b : Ed) → Decidable (leE a b)
  | .lo, .lo => isTrue trivial
  | .lo, .num _ => isTrue trivial
  | .lo, .hi => isTrue trivial
  | .num _, .hi => isTrue trivial
  | .hi, .hi => isTrue trivial
  | .num x, .num y => inferInstanceAs (Decidable (x ≤ y))
  | .num _, .lo => isFalse id
  | .hi, .lo => isFalse id
  | .hi, .num _ => isFalse id
def succE : Ed → Ed
  | .num x => .num (x + 1)
  | e => e
theorem leE_refl (a : Ed) : leE a a := by cases a <;> simp [leE]
theorem leE_trans {a b c : Ed} (h : leE a b) (k : leE b c) : leE a c := by
  cases a <;> cases b <;> cases c <;> simp_all [leE]
  omega
theorem leE_lob {a b : Ed} {z : Int} (h : leE a b) (k : lob b z) : lob a z := by
  cases a <;> cases b <;> simp_all [leE, lob]
  omega
theorem leE_hib {a b : Ed} {z : Int} (h : leE a b) (k : hib a z) : hib b z := by
  cases a <;> cases b <;> simp_all [leE, hib]
  omega
theorem Sep.lt {r s : R} (h : Sep r s) (hs : ok s) {y : Int} (hy : s.2 = .num y) : ∃ x, r.2 = .num x ∧ x + 1 < y + 1 := by
  obtain ⟨a, b, e1, e2, hab⟩ := h
  obtain ⟨z, h1, h2⟩ := hs
  rw [e2] at h1
  rw [hy] at h2
  change b ≤ z at h1
  change z ≤ y at h2
  exact ⟨a, e1, by omega⟩
theorem Sep.trans {r s t : R} (h : Sep r s) (hs : ok s) (k : Sep s t) : Sep r t := by
  obtain ⟨y, x, e1, e2, h1⟩ := k
  obtain ⟨a, e3, h2⟩ := h.lt hs e1
  exact ⟨a, x, e3, e2, by omega⟩
theorem NF.iff : ∀ {l : List R}, NF l ↔ (∀ r ∈ l, ok r) ∧ l.Pairwise Sep
  | [] => by simp [NF]
  | [r] => by simp [NF]
  | r :: s :: l => by
    have ih := NF.iff (l := s :: l)
    show (ok r ∧ Sep r s ∧ NF (s :: l)) ↔ _
    rw [ih]
    constructor
    · rintro ⟨h1, h2, h3, h4⟩
      refine ⟨fun t ht => ?_, List.pairwise_cons.2 ⟨fun t ht => ?_, h4⟩⟩
      · rcases List.mem_cons.1 ht with rfl | ht
        · exact h1
        · exact h3 t ht
      · rcases List.mem_cons.1 ht with rfl | ht
        · exact h2
        · exact h2.trans (h3 s List.mem_cons_self) ((List.pairwise_cons.1 h4).1 t ht)
    · rintro ⟨h1, h2⟩
      obtain ⟨h3, h4⟩ := List.pairwise_cons.1 h2
      exact ⟨h1 r List.mem_cons_self, h3 s List.mem_cons_self, fun t ht => h1 t (List.mem_cons_of_mem _ ht), h4⟩
/-- one range more, behind those that stand (the last first) -/
def pushR : List R → R → List R
  | [], r => [r]
  | s :: acc, r => if leE r.1 (succE s.2) then (if leE r.2 s.2 then s :: acc else (s.1, r.2) :: acc) else r :: s :: acc
def PInv (acc : List R) : Prop := (∀ r ∈ acc, ok r) ∧ acc.Pairwise fun a b => Sep b a
theorem leE_total {a b : Ed} (h : ¬ leE a b) : leE b a := by
  cases a <;> cases b <;> simp_all [leE]
  omega
theorem push_inv {acc : List R} {r : R} (h : PInv acc) (hr : ok r) (hle : ∀ s ∈ acc, leE s.1 r.1) : PInv (pushR acc r) ∧ (∀ z, mem z (pushR acc r) ↔ mem z acc ∨ inR z r) ∧ ∀ s ∈ pushR acc r, leE s.1 r.1 := by
  cases acc with
  | nil =>
    refine ⟨⟨by simpa [pushR] using hr, by simp [pushR]⟩, fun z => ?_, by simp [pushR, leE_refl]⟩
    show mem z [r] ↔ _
    rw [mem_cons]
    constructor
    · rintro (h | h)
      · exact .inr h
      · exact (mem_nil h).elim
    · rintro (h | h)
      · exact (mem_nil h).elim
      · exact .inl h
  | cons s acc =>
    obtain ⟨h1, h2⟩ := h
    obtain ⟨h3, h4⟩ := List.pairwise_cons.1 h2
    have hs := h1 s List.mem_cons_self
    have hsr := hle s List.mem_cons_self
    have hpe : pushR (s :: acc) r = if leE r.1 (succE s.2) then (if leE r.2 s.2 then s :: acc else (s.1, r.2) :: acc) else r :: s :: acc := rfl
    rw [hpe]
    by_cases c1 : leE r.1 (succE s.2)
    · rw [if_pos c1]
      by_cases c2 : leE r.2 s.2
      · rw [if_pos c2]
        refine ⟨⟨h1, h2⟩, fun z => ?_, hle⟩
        constructor
        · exact .inl
        · rintro (h | h)
          · exact h
          · exact mem_cons.2 (.inl ⟨leE_lob hsr h.1, leE_hib c2 h.2⟩)
      · rw [if_neg c2]
        have c3 := leE_total c2
        refine ⟨⟨fun t ht => ?_, List.pairwise_cons.2 ⟨fun t ht => ?_, h4⟩⟩, fun z => ?_, fun t ht => ?_⟩
        · rcases List.mem_cons.1 ht with rfl | ht
          · obtain ⟨z, k1, k2⟩ := hs
            exact ⟨z, k1, leE_hib c3 k2⟩
          · exact h1 t (List.mem_cons_of_mem _ ht)
        · obtain ⟨y, x, e1, e2, k⟩ := h3 t ht
          exact ⟨y, x, e1, e2, k⟩
        · rw [mem_cons, mem_cons]
          constructor
          · rintro (h | h)
            · by_cases c4 : hib s.2 z
              · exact .inl (.inl ⟨h.1, c4⟩)
              · refine .inr ⟨?_, h.2⟩
                cases e : s.2 with
                | lo =>
                  obtain ⟨z', _, k2⟩ := hs
                  rw [e] at k2
                  exact k2.elim
                | hi => rw [e] at c4; exact (c4 trivial).elim
                | num y =>
                  rw [e] at c4 c1
                  refine leE_lob c1 ?_
                  show y + 1 ≤ z
                  have : ¬ z ≤ y := c4
                  omega
            · exact .inl (.inr h)
          · rintro ((h | h) | h)
            · exact .inl ⟨h.1, leE_hib c3 h.2⟩
            · exact .inr h
            · exact .inl ⟨leE_lob hsr h.1, h.2⟩
        · rcases List.mem_cons.1 ht with rfl | ht
          · exact hsr
          · exact hle t (List.mem_cons_of_mem _ ht)
    · rw [if_neg c1]
      have hsep : Sep s r := by
        cases e : s.2 with
        | lo =>
          obtain ⟨z', _, k2⟩ := hs
          rw [e] at k2
          exact k2.elim
        | hi => rw [e] at c1; cases e2 : r.1 <;> rw [e2] at c1 <;> simp [succE, leE] at c1
        | num y =>
          rw [e] at c1
          cases e2 : r.1 with
          | lo => rw [e2] at c1; simp [leE] at c1
          | hi =>
            obtain ⟨z', k1, _⟩ := hr
            rw [e2] at k1
            exact k1.elim
          | num x =>
            rw [e2] at c1
            refine ⟨y, x, e, e2, ?_⟩
            have : ¬ x ≤ y + 1 := c1
            omega
      refine ⟨⟨fun t ht => ?_, List.pairwise_cons.2 ⟨fun t ht => ?_, h2⟩⟩, fun z => ?_, fun t ht => ?_⟩
      · rcases List.mem_cons.1 ht with rfl | ht
        · exact hr
        · exact h1 t ht
      · rcases List.mem_cons.1 ht with rfl | ht
        · exact hsep
        · exact (h3 t ht).trans hs hsep
      · rw [mem_cons]
        exact ⟨fun h => h.symm, fun h => h.symm⟩
      · rcases List.mem_cons.1 ht with rfl | ht
        · exact leE_refl _
        · exact hle t ht
def normalP (l : List R) : List R := (l.foldl pushR []).reverse
theorem fold_inv : ∀ {l acc : List R}, PInv acc → (∀ r ∈ l, ok r) → l.Pairwise (fun a b => leE a.1 b.1) → (∀ s ∈ acc, ∀ r ∈ l, leE s.1 r.1) → PInv (l.foldl pushR acc) ∧ ∀ z, mem z (l.foldl pushR acc) ↔ mem z acc ∨ mem z l
  | [], acc, h, _, _, _ => ⟨h, fun z => ⟨.inl, fun k => k.elim id fun k => (mem_nil k).elim⟩⟩
  | r :: l, acc, h, hok, hp, hle => by
    obtain ⟨p1, p2⟩ := List.pairwise_cons.1 hp
    obtain ⟨k1, k2, k3⟩ := push_inv h (hok r List.mem_cons_self) (fun s hs => hle s hs r List.mem_cons_self)
    obtain ⟨i1, i2⟩ := fold_inv k1 (fun t ht => hok t (List.mem_cons_of_mem _ ht)) p2 (fun s hs t ht => leE_trans (k3 s hs) (p1 t ht))
    refine ⟨i1, fun z => ?_⟩
    show mem z (l.foldl pushR (pushR acc r)) ↔ _
    rw [i2, k2, mem_cons]
    exact or_assoc
theorem mem_reverse {z : Int} {l : List R} : mem z l.reverse ↔ mem z l := by simp [mem]
/-- the program's normal form is normal, and the same set -/
theorem normalP_NF {l : List R} (hok : ∀ r ∈ l, ok r) (hp : l.Pairwise (fun a b => leE a.1 b.1)) : NF (normalP l) ∧ ∀ z, mem z (normalP l) ↔ mem z l := by
  obtain ⟨⟨h1, h2⟩, h3⟩ := fold_inv (l := l) (acc := []) ⟨by simp, List.Pairwise.nil⟩ hok hp (by simp)
  refine ⟨NF.iff.2 ⟨fun r hr => h1 r (by simpa [normalP] using hr), List.pairwise_reverse.2 h2⟩, fun z => ?_⟩
  unfold normalP
  rw [mem_reverse, h3]
  exact ⟨fun h => h.elim (fun k => (mem_nil k).elim) id, .inr⟩
end Hf

/-
  Plain: the document's way to the normal form (a sweep over the places where membership may turn).
-/
set_option linter.unusedVariables false
set_option linter.unusedSimpArgs false
namespace Hf
def sweep (f : Int → Bool) : Option Ed → List Int → List R
  | none, [] => []
  | some e, [] => [(e, .hi)]
  | none, x :: t => if f x = true then sweep f (some (.num x)) t else sweep f none t
  | some e, x :: t => if f x = true then sweep f (some e) t else (e, .num (x - 1)) :: sweep f none t
theorem const_to {f : Int → Bool} {b : Int} {t : List Int} (hc : ∀ z, b ≤ z → z + 1 ∉ t → f (z + 1) = f z) : ∀ (n : Nat), (∀ x ∈ t, b + n < x) → f (b + n) = f b
  | 0, _ => by simp
  | n + 1, h => by
    have ih := const_to hc n fun x hx => by have := h x hx; omega
    have h1 := hc (b + n) (by omega) fun hm => by have := h _ hm; omega
    rw [show b + ((n + 1 : Nat) : Int) = b + n + 1 by omega, h1, ih]
theorem const_below {f : Int → Bool} {b : Int} {t : List Int} (hc : ∀ z, b ≤ z → z + 1 ∉ t → f (z + 1) = f z) {z : Int} (hz : b ≤ z) (h : ∀ x ∈ t, z < x) : f z = f b := by
  have := const_to hc (z - b).toNat (fun x hx => by have := h x hx; omega)
  rwa [show b + ((z - b).toNat : Int) = z by omega] at this
theorem sweep_spec {f : Int → Bool} : ∀ (t : List Int) (b : Int), (∀ x ∈ t, b < x) → t.Pairwise (· < ·) → (∀ z, b ≤ z → z + 1 ∉ t → f (z + 1) = f z) →
    (f b = false → NF (sweep f none t) ∧ (∀ z, mem z (sweep f none t) ↔ b ≤ z ∧ f z = true) ∧ ∀ r ∈ sweep f none t, ∃ y, r.1 = .num y ∧ b < y) ∧
    (∀ e, f b = true → lob e b → NF (sweep f (some e) t) ∧ (∀ z, mem z (sweep f (some e) t) ↔ (lob e z ∧ z ≤ b) ∨ (b ≤ z ∧ f z = true)) ∧ ∀ r ∈ sweep f (some e) t, r.1 = e ∨ ∃ y, r.1 = .num y ∧ b < y)
  | [], b, hb, hp, hc => by
    refine ⟨fun hf => ⟨trivial, fun z => ⟨fun h => (mem_nil h).elim, fun ⟨h1, h2⟩ => ?_⟩, by simp [sweep]⟩, fun e hf he => ⟨⟨b, he, trivial⟩, fun z => ?_, by simp [sweep]⟩⟩
    · rw [const_below hc h1 (by simp), hf] at h2
      cases h2
    · show mem z [(e, .hi)] ↔ _
      rw [mem_cons]
      constructor
      · rintro (h | h)
        · by_cases hz : z ≤ b
          · exact .inl ⟨h.1, hz⟩
          · exact .inr ⟨by omega, by rw [const_below hc (by omega) (by simp), hf]⟩
        · exact (mem_nil h).elim
      · rintro (h | h)
        · exact .inl ⟨h.1, trivial⟩
        · exact .inl ⟨lob_mono he h.1, trivial⟩
  | x :: t, b, hb, hp, hc => by
    obtain ⟨p1, p2⟩ := List.pairwise_cons.1 hp
    have hbx := hb x List.mem_cons_self
    have hcx : ∀ z, x ≤ z → z + 1 ∉ t → f (z + 1) = f z := fun z hz hm => hc z (by omega) fun h => by
      rcases List.mem_cons.1 h with h | h
      · omega
      · exact hm h
    have hbel : ∀ z, b ≤ z → z < x → f z = f b := fun z h1 h2 => const_below hc h1 fun y hy => by
      rcases List.mem_cons.1 hy with rfl | hy
      · exact h2
      · have := p1 y hy; omega
    obtain ⟨iA, iB⟩ := sweep_spec t x p1 p2 hcx
    refine ⟨fun hf => ?_, fun e hf he => ?_⟩
    · by_cases hx : f x = true
      · rw [show sweep f none (x :: t) = sweep f (some (.num x)) t from if_pos hx]
        obtain ⟨i1, i2, i3⟩ := iB (.num x) hx (Int.le_refl _)
        refine ⟨i1, fun z => ?_, fun r hr => ?_⟩
        · rw [i2]
          constructor
          · rintro (⟨h1, h2⟩ | ⟨h1, h2⟩)
            · have h1 : x ≤ z := h1
              obtain rfl : z = x := by omega
              exact ⟨by omega, hx⟩
            · exact ⟨by omega, h2⟩
          · rintro ⟨h1, h2⟩
            by_cases hz : z < x
            · rw [hbel z h1 hz, hf] at h2; cases h2
            · exact .inr ⟨by omega, h2⟩
        · rcases i3 r hr with h | ⟨y, h1, h2⟩
          · exact ⟨x, h, hbx⟩
          · exact ⟨y, h1, by omega⟩
      · rw [show sweep f none (x :: t) = sweep f none t from if_neg hx]
        obtain ⟨i1, i2, i3⟩ := iA (by simpa using hx)
        refine ⟨i1, fun z => ?_, fun r hr => ?_⟩
        · rw [i2]
          constructor
          · exact fun ⟨h1, h2⟩ => ⟨by omega, h2⟩
          · rintro ⟨h1, h2⟩
            by_cases hz : z < x
            · rw [hbel z h1 hz, hf] at h2; cases h2
            · exact ⟨by omega, h2⟩
        · obtain ⟨y, h1, h2⟩ := i3 r hr
          exact ⟨y, h1, by omega⟩
    · have hex : lob e x := lob_mono he (by omega)
      by_cases hx : f x = true
      · rw [show sweep f (some e) (x :: t) = sweep f (some e) t from if_pos hx]
        obtain ⟨i1, i2, i3⟩ := iB e hx hex
        refine ⟨i1, fun z => ?_, fun r hr => ?_⟩
        · rw [i2]
          constructor
          · rintro (⟨h1, h2⟩ | ⟨h1, h2⟩)
            · by_cases hz : z ≤ b
              · exact .inl ⟨h1, hz⟩
              · refine .inr ⟨by omega, ?_⟩
                by_cases hzx : z < x
                · rw [hbel z (by omega) hzx, hf]
                · obtain rfl : z = x := by omega
                  exact hx
            · exact .inr ⟨by omega, h2⟩
          · rintro (⟨h1, h2⟩ | ⟨h1, h2⟩)
            · exact .inl ⟨h1, by omega⟩
            · by_cases hzx : x ≤ z
              · exact .inr ⟨hzx, h2⟩
              · exact .inl ⟨lob_mono he h1, by omega⟩
        · rcases i3 r hr with h | ⟨y, h1, h2⟩
          · exact .inl h
          · exact .inr ⟨y, h1, by omega⟩
      · rw [show sweep f (some e) (x :: t) = (e, .num (x - 1)) :: sweep f none t from if_neg hx]
        have hx' : f x = false := by simpa using hx
        obtain ⟨i1, i2, i3⟩ := iA hx'
        have hok : ok (e, .num (x - 1)) := ⟨b, he, show b ≤ x - 1 by omega⟩
        refine ⟨NF.iff.2 ⟨fun r hr => ?_, List.pairwise_cons.2 ⟨fun r hr => ?_, (NF.iff.1 i1).2⟩⟩, fun z => ?_, fun r hr => ?_⟩
        · rcases List.mem_cons.1 hr with rfl | hr
          · exact hok
          · exact (NF.iff.1 i1).1 r hr
        · obtain ⟨y, h1, h2⟩ := i3 r hr
          exact ⟨x - 1, y, rfl, h1, by omega⟩
        · rw [mem_cons, i2]
          constructor
          · rintro (⟨h1, h2⟩ | ⟨h1, h2⟩)
            · have h2 : z ≤ x - 1 := h2
              by_cases hz : z ≤ b
              · exact .inl ⟨h1, hz⟩
              · exact .inr ⟨by omega, by rw [hbel z (by omega) (by omega), hf]⟩
            · exact .inr ⟨by omega, h2⟩
          · rintro (⟨h1, h2⟩ | ⟨h1, h2⟩)
            · exact .inl ⟨h1, show z ≤ x - 1 by omega⟩
            · by_cases hzx : z < x
              · exact .inl ⟨lob_mono he h1, show z ≤ x - 1 by omega⟩
              · exact .inr ⟨by omega, h2⟩
        · rcases List.mem_cons.1 hr with rfl | hr
          · exact .inl rfl
          · obtain ⟨y, h1, h2⟩ := i3 r hr
            exact .inr ⟨y, h1, by omega⟩
/-- the sweep from below all: normal, and just what f tells -/
theorem sweep_NF {f : Int → Bool} {t : List Int} {low : Bool} (hp : t.Pairwise (· < ·)) (hc : ∀ z, z + 1 ∉ t → f (z + 1) = f z) {b : Int} (hb : ∀ x ∈ t, b < x) (hl : ∀ z, z ≤ b → f z = low) :
    NF (sweep f (if low = true then some .lo else none) t) ∧ ∀ z, mem z (sweep f (if low = true then some .lo else none) t) ↔ f z = true := by
  obtain ⟨hA, hB⟩ := sweep_spec t b hb hp fun z _ => hc z
  cases low with
  | true =>
    rw [if_pos rfl]
    obtain ⟨h1, h2, _⟩ := hB .lo (hl b (Int.le_refl _)) trivial
    refine ⟨h1, fun z => ?_⟩
    rw [h2]
    constructor
    · rintro (⟨_, h⟩ | ⟨_, h⟩)
      · exact hl z h
      · exact h
    · intro h
      by_cases hz : z ≤ b
      · exact .inl ⟨trivial, hz⟩
      · exact .inr ⟨by omega, h⟩
  | false =>
    rw [if_neg (by simp)]
    obtain ⟨h1, h2, _⟩ := hA (hl b (Int.le_refl _))
    refine ⟨h1, fun z => ?_⟩
    rw [h2]
    constructor
    · exact And.right
    · intro h
      by_cases hz : z ≤ b
      · rw [hl z hz] at h; cases h
      · exact ⟨by omega, h⟩
end Hf

/-
  Plain: the program's and the document's normal form are one; what the document builds of two sets.
-/
set_option linter.unusedVariables false
set_option linter.unusedSimpArgs false
namespace Hf
def numL : Ed → List Int
  | .num x => [x]
  | _ => []
def rawT (l : List R) : List Int := l.flatMap fun r => numL r.1 ++ (numL r.2).map (· + 1)
def inB (z : Int) (r : R) : Bool := decide (leE r.1 (.num z)) && decide (leE (.num z) r.2)
def memB (z : Int) (l : List R) : Bool := l.any (inB z)
def lowR (r : R) : Bool := decide (r.1 = .lo) && !decide (r.2 = .lo)
def lowB (l : List R) : Bool := l.any lowR
theorem inB_iff {z : Int} {r : R} : inB z r = true ↔ inR z r := by
  obtain ⟨a, b⟩ := r
  simp only [inB, inR, Bool.and_eq_true, decide_eq_true_eq]
  cases a <;> cases b <;> simp [leE, lob, hib]
theorem memB_iff {z : Int} {l : List R} : memB z l = true ↔ mem z l := by
  simp only [memB, List.any_eq_true, mem, inB_iff]
theorem raw_lo {l : List R} {r : R} (hr : r ∈ l) {x : Int} (h : r.1 = .num x) : x ∈ rawT l :=
  List.mem_flatMap.2 ⟨r, hr, List.mem_append.2 (.inl (by rw [h]; exact List.mem_singleton.2 rfl))⟩
theorem raw_hi {l : List R} {r : R} (hr : r ∈ l) {y : Int} (h : r.2 = .num y) : y + 1 ∈ rawT l :=
  List.mem_flatMap.2 ⟨r, hr, List.mem_append.2 (.inr (by rw [h]; exact List.mem_singleton.2 rfl))⟩
theorem inR_step {l : List R} {r : R} (hr : r ∈ l) {z : Int} (h : z + 1 ∉ rawT l) : inR (z + 1) r ↔ inR z r := by
  have h1 : lob r.1 (z + 1) ↔ lob r.1 z := by
    cases e : r.1 with
    | lo => exact Iff.rfl
    | hi => exact Iff.rfl
    | num x =>
      have : x ≠ z + 1 := fun e2 => h (e2 ▸ raw_lo hr e)
      show x ≤ z + 1 ↔ x ≤ z
      omega
  have h2 : hib r.2 (z + 1) ↔ hib r.2 z := by
    cases e : r.2 with
    | lo => exact Iff.rfl
    | hi => exact Iff.rfl
    | num y =>
      have : y + 1 ≠ z + 1 := fun e2 => h (e2 ▸ raw_hi hr e)
      show z + 1 ≤ y ↔ z ≤ y
      omega
  unfold inR
  rw [h1, h2]
theorem memB_step {l : List R} {z : Int} (h : z + 1 ∉ rawT l) : memB (z + 1) l = memB z l := by
  have : memB (z + 1) l = true ↔ memB z l = true := by
    rw [memB_iff, memB_iff]
    exact ⟨fun ⟨r, hr, k⟩ => ⟨r, hr, (inR_step hr h).1 k⟩, fun ⟨r, hr, k⟩ => ⟨r, hr, (inR_step hr h).2 k⟩⟩
  exact Bool.eq_iff_iff.2 this
theorem memB_low {l : List R} {b z : Int} (hb : ∀ x ∈ rawT l, b < x) (hz : z ≤ b) : memB z l = lowB l := by
  have : memB z l = true ↔ lowB l = true := by
    rw [memB_iff]
    simp only [lowB, List.any_eq_true, mem]
    refine exists_congr fun r => and_congr_right fun hr => ?_
    simp only [lowR, inR, Bool.and_eq_true, decide_eq_true_eq, Bool.not_eq_true', decide_eq_false_iff_not]
    refine and_congr ?_ ?_
    · cases e : r.1 with
      | lo => exact ⟨fun _ => rfl, fun _ => trivial⟩
      | hi => exact ⟨fun k => k.elim, fun k => (by cases k)⟩
      | num x =>
        have := hb x (raw_lo hr e)
        exact ⟨fun k => (by have k : x ≤ z := k; omega), fun k => (by cases k)⟩
    · cases e : r.2 with
      | lo => exact ⟨fun k => k.elim, fun k => (k rfl).elim⟩
      | hi => exact ⟨fun _ k => (by cases k), fun _ => trivial⟩
      | num y =>
        have := hb (y + 1) (raw_hi hr e)
        exact ⟨fun _ k => (by cases k), fun _ => show z ≤ y by omega⟩
  exact Bool.eq_iff_iff.2 this
/-- what the document builds of two sets by w, at the places t -/
def builtP (w : Bool → Bool → Bool) (a b : List R) (t : List Int) : List R :=
  sweep (fun z => w (memB z a) (memB z b)) (if w (lowB a) (lowB b) = true then some .lo else none) t
theorem exists_below : ∀ t : List Int, ∃ b, ∀ x ∈ t, b < x
  | [] => ⟨0, by simp⟩
  | x :: t => by
    obtain ⟨b, h⟩ := exists_below t
    refine ⟨min b (x - 1), fun y hy => ?_⟩
    rcases List.mem_cons.1 hy with rfl | hy
    · omega
    · have := h y hy; omega
theorem built_spec {w : Bool → Bool → Bool} {a b : List R} {t : List Int} (hp : t.Pairwise (· < ·)) (hta : ∀ x ∈ rawT a, x ∈ t) (htb : ∀ x ∈ rawT b, x ∈ t) :
    NF (builtP w a b t) ∧ ∀ z, mem z (builtP w a b t) ↔ w (memB z a) (memB z b) = true := by
  obtain ⟨c, hc⟩ := exists_below t
  exact sweep_NF hp (fun z hz => by rw [memB_step fun h => hz (hta _ h), memB_step fun h => hz (htb _ h)]) hc
    (fun z hz => by rw [memB_low (fun x hx => hc x (hta x hx)) hz, memB_low (fun x hx => hc x (htb x hx)) hz])
/-- the program's normal form of raw ranges is the document's -/
theorem norm_eq {l s : List R} {t : List Int} (hs : ∀ r, r ∈ s ↔ r ∈ l ∧ ok r) (hp : s.Pairwise fun a b => leE a.1 b.1) (ht : t.Pairwise (· < ·)) (hta : ∀ x ∈ rawT l, x ∈ t) : normalP s = builtP (fun a b => a || b) l [] t := by
  obtain ⟨h1, h2⟩ := normalP_NF (fun r hr => ((hs r).1 hr).2) hp
  obtain ⟨h3, h4⟩ := built_spec (w := fun a b => a || b) (a := l) (b := []) ht hta (by simp [rawT])
  refine h1.uniq h3 fun z => ?_
  rw [h2, h4]
  show _ ↔ (memB z l || memB z []) = true
  rw [show memB z [] = false from rfl, Bool.or_false, memB_iff]
  exact ⟨fun ⟨r, hr, k⟩ => ⟨r, ((hs r).1 hr).1, k⟩, fun ⟨r, hr, k⟩ => ⟨r, (hs r).2 ⟨hr, z, k⟩, k⟩⟩
end Hf

/-
  Plain: the pieces of two sets from below (the program's merge).
-/
set_option linter.unusedVariables false
set_option linter.unusedSimpArgs false
namespace Hf
/-- is an end in a set, and up to where does that stay so -/
def pieceP : List R → Ed → Bool × Ed
  | [], _ => (false, .hi)
  | r :: d, low => if leE r.1 low then (if leE low r.2 then (true, r.2) else pieceP d low) else (false, match r.1 with | .num x => .num (x - 1) | e => e)
/-- z lies below the end -/
def below (z : Int) : Ed → Prop
  | .lo => False
  | .num x => z < x
  | .hi => True
theorem memB_cons {z : Int} {r : R} {d : List R} : memB z (r :: d) = (inB z r || memB z d) := rfl
theorem piece_spec : ∀ {d : List R} {low : Ed}, NF d → low ≠ .hi → (∀ z, ¬ below z low → hib (pieceP d low).2 z → memB z d = (pieceP d low).1) ∧ ((pieceP d low).2 = .hi ∨ ∃ y, (pieceP d low).2 = .num y ∧ lob low y)
  | [], low, _, _ => ⟨fun z _ _ => rfl, .inl rfl⟩
  | r :: d, low, h, hl => by
    obtain ⟨z0, o1, o2⟩ := h.head
    by_cases c1 : leE r.1 low
    · by_cases c2 : leE low r.2
      · rw [show pieceP (r :: d) low = (true, r.2) from (if_pos c1).trans (if_pos c2)]
        refine ⟨fun z h1 h2 => ?_, ?_⟩
        · refine memB_iff.2 (mem_cons.2 (.inl ⟨?_, h2⟩))
          refine leE_lob c1 ?_
          cases low with
          | lo => trivial
          | hi => exact (hl rfl).elim
          | num x => show x ≤ z; exact Int.not_lt.1 h1
        · cases e : r.2 with
          | hi => exact .inl rfl
          | lo => rw [e] at o2; exact o2.elim
          | num y =>
            refine .inr ⟨y, rfl, ?_⟩
            rw [e] at c2
            cases low with
            | lo => trivial
            | hi => exact (hl rfl).elim
            | num x => exact c2
      · rw [show pieceP (r :: d) low = pieceP d low from (if_pos c1).trans (if_neg c2)]
        obtain ⟨i1, i2⟩ := piece_spec (low := low) h.tail hl
        refine ⟨fun z h1 h2 => ?_, i2⟩
        rw [memB_cons, i1 z h1 h2]
        have : inB z r = false := by
          refine Bool.eq_false_iff.2 fun k => ?_
          have k2 := (inB_iff.1 k).2
          cases low with
          | lo => exact c2 trivial
          | hi => exact hl rfl
          | num x =>
            cases e : r.2 with
            | hi => rw [e] at c2; exact c2 trivial
            | lo => rw [e] at k2; exact k2
            | num y =>
              rw [e] at c2 k2
              have c2 : ¬ x ≤ y := c2
              have k2 : z ≤ y := k2
              have h1 : ¬ z < x := h1
              omega
        rw [this, Bool.false_or]
    · cases e : r.1 with
      | lo => rw [e] at c1; exact (c1 trivial).elim
      | hi => rw [e] at o1; exact o1.elim
      | num x =>
        rw [show pieceP (r :: d) low = (false, .num (x - 1)) from by unfold pieceP; rw [if_neg c1, e]]
        rw [e] at c1
        refine ⟨fun z h1 h2 => ?_, .inr ⟨x - 1, rfl, ?_⟩⟩
        · refine Bool.eq_false_iff.2 fun k => ?_
          have := h.below (memB_iff.1 k)
          rw [e] at this
          have k1 : x ≤ z := this
          have k2 : z ≤ x - 1 := h2
          omega
        · cases low with
          | lo => trivial
          | hi => exact (hl rfl).elim
          | num y =>
            have c1 : ¬ x ≤ y := c1
            show y ≤ x - 1
            omega
/-- what has been kept so far, below the end low -/
structure MI (w : Bool → Bool → Bool) (a b out : List R) (low : Ed) : Prop where
  ok : ∀ r ∈ out, ok r
  srt : out.Pairwise fun r s => leE r.1 s.1
  le : ∀ r ∈ out, leE r.1 low
  mem : ∀ z, mem z out ↔ below z low ∧ w (memB z a) (memB z b) = true
theorem MI.start {w : Bool → Bool → Bool} {a b : List R} : MI w a b [] .lo := ⟨by simp, List.Pairwise.nil, by simp, fun z => ⟨fun h => (mem_nil h).elim, fun h => h.1.elim⟩⟩
theorem mem_append {z : Int} {l m : List R} : mem z (l ++ m) ↔ mem z l ∨ mem z m := by
  simp only [mem, List.mem_append]
  constructor
  · rintro ⟨r, h | h, k⟩
    · exact .inl ⟨r, h, k⟩
    · exact .inr ⟨r, h, k⟩
  · rintro (⟨r, h, k⟩ | ⟨r, h, k⟩)
    · exact ⟨r, .inl h, k⟩
    · exact ⟨r, .inr h, k⟩
def minE (a b : Ed) : Ed := if leE b a ∧ ¬ leE a b then b else a
theorem minE_hib {a b : Ed} {z : Int} (h : hib (minE a b) z) : hib a z ∧ hib b z := by
  unfold minE at h
  by_cases c : leE b a ∧ ¬ leE a b
  · rw [if_pos c] at h
    exact ⟨leE_hib c.1 h, h⟩
  · rw [if_neg c] at h
    refine ⟨h, leE_hib (a := a) ?_ h⟩
    by_cases k : leE a b
    · exact k
    · exact (c ⟨leE_total k, k⟩).elim
theorem minE_or (a b : Ed) : minE a b = a ∨ minE a b = b := by
  unfold minE
  by_cases c : leE b a ∧ ¬ leE a b
  · rw [if_pos c]; exact .inr rfl
  · rw [if_neg c]; exact .inl rfl
/-- one round -/
theorem MI.step {w : Bool → Bool → Bool} {a b out : List R} {low : Ed} (h : MI w a b out low) (ha : NF a) (hb : NF b) (hl : low ≠ .hi) {e : Ed} (he : minE (pieceP a low).2 (pieceP b low).2 = e) :
    MI w a b (out ++ if w (pieceP a low).1 (pieceP b low).1 = true then [(low, e)] else []) (succE e) ∧ (e = .hi ∨ ∃ y, e = .num y ∧ lob low y) := by
  obtain ⟨a1, a2⟩ := piece_spec (low := low) ha hl
  obtain ⟨b1, b2⟩ := piece_spec (low := low) hb hl
  have hcase : e = .hi ∨ ∃ y, e = .num y ∧ lob low y := by
    rw [← he]
    rcases minE_or (pieceP a low).2 (pieceP b low).2 with k | k <;> rw [k]
    · exact a2
    · exact b2
  have hle : leE low (succE e) := by
    rcases hcase with rfl | ⟨y, rfl, hy⟩
    · cases low <;> trivial
    · cases low with
      | lo => trivial
      | hi => exact (hl rfl).elim
      | num x => have hy : x ≤ y := hy; show x ≤ y + 1; omega
  have hin : ∀ z, ¬ below z low → hib e z → w (memB z a) (memB z b) = w (pieceP a low).1 (pieceP b low).1 := fun z h1 h2 => by
    rw [← he] at h2
    obtain ⟨k1, k2⟩ := minE_hib h2
    rw [a1 z h1 k1, b1 z h1 k2]
  have hbz : ∀ z, below z (succE e) ↔ below z low ∨ (¬ below z low ∧ hib e z) := fun z => by
    rcases hcase with rfl | ⟨y, rfl, hy⟩
    · by_cases k : below z low
      · exact ⟨fun _ => .inl k, fun _ => trivial⟩
      · exact ⟨fun _ => .inr ⟨k, trivial⟩, fun _ => trivial⟩
    · show z < y + 1 ↔ below z low ∨ (¬ below z low ∧ z ≤ y)
      cases low with
      | lo =>
        show z < y + 1 ↔ False ∨ (¬ False ∧ z ≤ y)
        constructor
        · exact fun k => .inr ⟨id, by omega⟩
        · rintro (k | ⟨_, k⟩)
          · exact k.elim
          · omega
      | hi => exact (hl rfl).elim
      | num x =>
        have hy : x ≤ y := hy
        show z < y + 1 ↔ z < x ∨ (¬ z < x ∧ z ≤ y)
        omega
  have hlow : ∀ z, inR z (low, e) ↔ ¬ below z low ∧ hib e z := fun z => by
    refine and_congr ?_ Iff.rfl
    cases low with
    | lo => exact ⟨fun _ => id, fun _ => trivial⟩
    | hi => exact (hl rfl).elim
    | num x => exact ⟨fun k => Int.not_lt.2 k, fun k => Int.not_lt.1 k⟩
  refine ⟨?_, hcase⟩
  by_cases c : w (pieceP a low).1 (pieceP b low).1 = true
  · rw [if_pos c]
    refine ⟨fun r hr => ?_, ?_, fun r hr => ?_, fun z => ?_⟩
    · rcases List.mem_append.1 hr with hr | hr
      · exact h.ok r hr
      · obtain rfl := List.mem_singleton.1 hr
        rcases hcase with rfl | ⟨y, rfl, hy⟩
        · cases low with
          | lo => exact ⟨0, trivial, trivial⟩
          | hi => exact (hl rfl).elim
          | num x => exact ⟨x, Int.le_refl x, trivial⟩
        · exact ⟨y, hy, Int.le_refl y⟩
    · refine List.pairwise_append.2 ⟨h.srt, List.pairwise_singleton _ _, fun r hr s hs => ?_⟩
      obtain rfl := List.mem_singleton.1 hs
      exact h.le r hr
    · rcases List.mem_append.1 hr with hr | hr
      · exact leE_trans (h.le r hr) hle
      · obtain rfl := List.mem_singleton.1 hr
        exact hle
    · rw [mem_append, h.mem, mem_cons, hlow, hbz]
      constructor
      · rintro (⟨k1, k2⟩ | ⟨k1, k2⟩ | k)
        · exact ⟨.inl k1, k2⟩
        · exact ⟨.inr ⟨k1, k2⟩, by rw [hin z k1 k2]; exact c⟩
        · exact (mem_nil k).elim
      · rintro ⟨k1 | ⟨k1, k2⟩, k3⟩
        · exact .inl ⟨k1, k3⟩
        · exact .inr (.inl ⟨k1, k2⟩)
  · rw [if_neg c, List.append_nil]
    refine ⟨h.ok, h.srt, fun r hr => leE_trans (h.le r hr) hle, fun z => ?_⟩
    rw [h.mem, hbz]
    constructor
    · exact fun ⟨k1, k2⟩ => ⟨.inl k1, k2⟩
    · rintro ⟨k1 | ⟨k1, k2⟩, k3⟩
      · exact ⟨k1, k3⟩
      · rw [hin z k1 k2] at k3
        exact (c k3).elim
/-- the end of the loop: what was kept, put into normal form, is what the document builds -/
theorem MI.done {w : Bool → Bool → Bool} {a b out a' b' : List R} {t : List Int} (h : MI w a b out .hi) (hA : ∀ z, Hf.mem z a ↔ Hf.mem z a') (hB : ∀ z, Hf.mem z b ↔ Hf.mem z b') (ht : t.Pairwise (· < ·)) (hta : ∀ x ∈ rawT a', x ∈ t) (htb : ∀ x ∈ rawT b', x ∈ t) : normalP out = builtP w a' b' t := by
  obtain ⟨h1, h2⟩ := normalP_NF h.ok h.srt
  obtain ⟨h3, h4⟩ := built_spec (w := w) ht hta htb
  refine h1.uniq h3 fun z => ?_
  have e1 : memB z a = memB z a' := Bool.eq_iff_iff.2 (by rw [memB_iff, memB_iff]; exact hA z)
  have e2 : memB z b = memB z b' := Bool.eq_iff_iff.2 (by rw [memB_iff, memB_iff]; exact hB z)
  rw [h2, h4, h.mem, e1, e2]
  exact ⟨And.right, fun k => ⟨trivial, k⟩⟩
end Hf

/-
  Plain: how many a finite set has, counted by one who goes from each to the next.
-/
set_option linter.unusedVariables false
set_option linter.unusedSimpArgs false
namespace Hf
def fin (l : List R) : Prop := ∀ r ∈ l, ∃ x y, r = (.num x, .num y)
def cnt1 (n : Int) : R → Int
  | (.num x, .num y) => max 0 (min y n - x + 1)
  | _ => 0
def cnt (n : Int) : List R → Int
  | [] => 0
  | r :: l => cnt1 n r + cnt n l
def size1 : R → Int
  | (.num x, .num y) => y - x + 1
  | _ => 0
def sizeP : List R → Int
  | [] => 0
  | r :: l => size1 r + sizeP l
theorem cnt_above {l : List R} {z : Int} (hf : fin l) (h : ∀ k, mem k l → z < k) (hok : ∀ r ∈ l, ok r) : cnt z l = 0 := by
  induction l with
  | nil => rfl
  | cons r l ih =>
    obtain ⟨x, y, rfl⟩ := hf r List.mem_cons_self
    obtain ⟨k, h1, h2⟩ := hok _ List.mem_cons_self
    have h1 : x ≤ k := h1
    have h2 : k ≤ y := h2
    have h3 : z < x := h x (mem_cons.2 (.inl ⟨Int.le_refl x, show x ≤ y by omega⟩))
    have := ih (fun r hr => hf r (List.mem_cons_of_mem _ hr)) (fun k hk => h k (mem_cons.2 (.inr hk))) (fun r hr => hok r (List.mem_cons_of_mem _ hr))
    show max 0 (min y z - x + 1) + cnt z l = 0
    rw [this]
    omega
theorem cnt_all {l : List R} {z : Int} (hf : fin l) (h : ∀ k, mem k l → k ≤ z) (hok : ∀ r ∈ l, ok r) : cnt z l = sizeP l := by
  induction l with
  | nil => rfl
  | cons r l ih =>
    obtain ⟨x, y, rfl⟩ := hf r List.mem_cons_self
    obtain ⟨k, h1, h2⟩ := hok _ List.mem_cons_self
    have h1 : x ≤ k := h1
    have h2 : k ≤ y := h2
    have h3 : y ≤ z := h y (mem_cons.2 (.inl ⟨show x ≤ y by omega, Int.le_refl y⟩))
    have := ih (fun r hr => hf r (List.mem_cons_of_mem _ hr)) (fun k hk => h k (mem_cons.2 (.inr hk))) (fun r hr => hok r (List.mem_cons_of_mem _ hr))
    show max 0 (min y z - x + 1) + cnt z l = y - x + 1 + sizeP l
    rw [this]
    omega
/-- one step to the next counts one more -/
theorem cnt_next : ∀ {l : List R} {z z' : Int}, NF l → fin l → mem z l → mem z' l → z < z' → (∀ k, mem k l → z < k → z' ≤ k) → cnt z' l = cnt z l + 1
  | [], _, _, _, _, h, _, _, _ => (mem_nil h).elim
  | r :: l, z, z', hl, hf, hz, hz', hlt, hn => by
    obtain ⟨x, y, rfl⟩ := hf r List.mem_cons_self
    have hf' : fin l := fun r hr => hf r (List.mem_cons_of_mem _ hr)
    have hokl := (NF.iff.1 hl.tail).1
    have hab : ∀ k, mem k l → y + 1 < k := fun k hk => by
      obtain ⟨y', e, h⟩ := hl.above hk
      injection e with e
      omega
    show max 0 (min y z' - x + 1) + cnt z' l = max 0 (min y z - x + 1) + cnt z l + 1
    rcases mem_cons.1 hz' with h | h
    · have h1 : x ≤ z' := h.1
      have h2 : z' ≤ y := h.2
      rw [cnt_above hf' (fun k hk => by have := hab k hk; omega) hokl, cnt_above hf' (fun k hk => by have := hab k hk; omega) hokl]
      by_cases hx : x ≤ z
      · have := hn (z + 1) (mem_cons.2 (.inl ⟨show x ≤ z + 1 by omega, show z + 1 ≤ y by omega⟩)) (by omega)
        omega
      · have := hn x (mem_cons.2 (.inl ⟨Int.le_refl x, show x ≤ y by omega⟩)) (by omega)
        omega
    · have h3 := hab z' h
      have hy : z ≥ y := by
        refine Int.not_lt.1 fun k => ?_
        obtain ⟨q, q1, q2⟩ := hl.head
        have q1 : x ≤ q := q1
        have q2 : q ≤ y := q2
        have := hn y (mem_cons.2 (.inl ⟨show x ≤ y by omega, Int.le_refl y⟩)) k
        omega
      have e1 : cnt z' l = cnt z l + 1 := by
        by_cases hzl : mem z l
        · exact cnt_next hl.tail hf' hzl h hlt fun k hk => hn k (mem_cons.2 (.inr hk))
        · -- z ends the first range: z' is the least of the rest
          have hz2 : inR z (.num x, .num y) := (mem_cons.1 hz).resolve_right hzl
          have : z ≤ y := hz2.2
          rw [cnt_above (z := z) hf' (fun k hk => by have := hab k hk; omega) hokl]
          -- z' is the least member of l
          cases l with
          | nil => exact (mem_nil h).elim
          | cons s m =>
            obtain ⟨x2, y2, rfl⟩ := hf' s List.mem_cons_self
            obtain ⟨q, q1, q2⟩ := hl.tail.head
            have q1 : x2 ≤ q := q1
            have q2 : q ≤ y2 := q2
            have hmx : mem x2 ((Ed.num x2, Ed.num y2) :: m) := mem_cons.2 (.inl ⟨Int.le_refl x2, show x2 ≤ y2 by omega⟩)
            have k1 := hn x2 (mem_cons.2 (.inr hmx)) (by have := hab x2 hmx; omega)
            have k2 : x2 ≤ z' := hl.tail.below h
            obtain rfl : z' = x2 := by omega
            show max 0 (min y2 z' - z' + 1) + cnt z' m = 0 + 1
            rw [cnt_above (z := z') (fun r hr => hf' r (List.mem_cons_of_mem _ hr)) (fun k hk => by
              obtain ⟨y', e, h9⟩ := hl.tail.above hk
              injection e with e
              omega) (NF.iff.1 hl.tail.tail).1]
            omega
      rw [e1]
      omega
end Hf

/-
  Plain: the next of a set; shifting; scaling and dividing again.
-/
set_option linter.unusedVariables false
set_option linter.unusedSimpArgs false
namespace Hf
def nextP : List R → Ed → Option Ed
  | [], _ => none
  | r :: d, low => if leE low r.2 then some (if leE r.1 low then low else r.1) else nextP d low
theorem next_spec : ∀ {d : List R} {n : Int}, NF d →
    (nextP d (.num (n + 1)) = none ∧ ∀ k, mem k d → k ≤ n) ∨ (∃ k, nextP d (.num (n + 1)) = some (.num k) ∧ mem k d ∧ n < k ∧ ∀ q, mem q d → n < q → k ≤ q)
  | [], n, _ => .inl ⟨rfl, fun k h => (mem_nil h).elim⟩
  | r :: d, n, h => by
    obtain ⟨z, o1, o2⟩ := h.head
    by_cases c : leE (.num (n + 1)) r.2
    · refine .inr ?_
      by_cases c2 : leE r.1 (.num (n + 1))
      · rw [show nextP (r :: d) (.num (n + 1)) = some (.num (n + 1)) from (if_pos c).trans (by rw [if_pos c2])]
        refine ⟨n + 1, rfl, mem_cons.2 (.inl ?_), by omega, fun q _ h1 => by omega⟩
        exact inB_iff.1 (by unfold inB; simp [c, c2])
      · cases e : r.1 with
        | lo => rw [e] at c2; exact (c2 trivial).elim
        | hi => rw [e] at o1; exact o1.elim
        | num x =>
          rw [show nextP (r :: d) (.num (n + 1)) = some (.num x) from (if_pos c).trans (by rw [if_neg c2, e])]
          rw [e] at c2 o1
          have c2 : ¬ x ≤ n + 1 := c2
          have o1 : x ≤ z := o1
          refine ⟨x, rfl, mem_cons.2 (.inl ⟨by rw [e]; exact Int.le_refl x, hib_mono o2 o1⟩), by omega, fun q hq _ => ?_⟩
          have := h.below hq
          rw [e] at this
          exact this
    · rw [show nextP (r :: d) (.num (n + 1)) = nextP d (.num (n + 1)) from if_neg c]
      have hr : ∀ q, inR q r → q ≤ n := fun q hq => by
        cases e : r.2 with
        | hi => rw [e] at c; exact (c trivial).elim
        | lo => rw [e] at o2; exact o2.elim
        | num y =>
          rw [e] at c
          have c : ¬ n + 1 ≤ y := c
          have h2 := hq.2
          rw [e] at h2
          have h2 : q ≤ y := h2
          omega
      rcases next_spec (n := n) h.tail with ⟨h1, h2⟩ | ⟨k, h1, h2, h3, h4⟩
      · refine .inl ⟨h1, fun k hk => ?_⟩
        rcases mem_cons.1 hk with hk | hk
        · exact hr k hk
        · exact h2 k hk
      · refine .inr ⟨k, h1, mem_cons.2 (.inr h2), h3, fun q hq hlt => ?_⟩
        rcases mem_cons.1 hq with hq | hq
        · have := hr q hq; omega
        · exact h4 q hq hlt
def shE (n : Int) : Ed → Ed
  | .num x => .num (x + n)
  | e => e
def shR (n : Int) (r : R) : R := (shE n r.1, shE n r.2)
theorem inR_sh {n z : Int} {r : R} : inR z (shR n r) ↔ inR (z - n) r := by
  obtain ⟨a, b⟩ := r
  unfold inR shR
  refine and_congr ?_ ?_
  · cases a with
    | lo => exact Iff.rfl
    | hi => exact Iff.rfl
    | num x => show x + n ≤ z ↔ x ≤ z - n; omega
  · cases b with
    | lo => exact Iff.rfl
    | hi => exact Iff.rfl
    | num x => show z ≤ x + n ↔ z - n ≤ x; omega
theorem mem_sh {n z : Int} {l : List R} : mem z (l.map (shR n)) ↔ mem (z - n) l := by
  simp only [mem, List.mem_map]
  constructor
  · rintro ⟨_, ⟨r, hr, rfl⟩, h⟩
    exact ⟨r, hr, inR_sh.1 h⟩
  · rintro ⟨r, hr, h⟩
    exact ⟨_, ⟨r, hr, rfl⟩, inR_sh.2 h⟩
theorem NF_sh {n : Int} {l : List R} (h : NF l) : NF (l.map (shR n)) := by
  obtain ⟨h1, h2⟩ := NF.iff.1 h
  refine NF.iff.2 ⟨fun r hr => ?_, List.pairwise_map.2 (h2.imp fun {r s} hs => ?_)⟩
  · obtain ⟨q, hq, rfl⟩ := List.mem_map.1 hr
    obtain ⟨z, hz⟩ := h1 q hq
    exact ⟨z + n, inR_sh.2 (by rw [show z + n - n = z by omega]; exact hz)⟩
  · obtain ⟨y, x, e1, e2, h⟩ := hs
    exact ⟨y + n, x + n, by show shE n r.2 = _; rw [e1]; rfl, by show shE n s.1 = _; rw [e2]; rfl, by omega⟩
/-- scaled by n > 0, and divided again -/
theorem parts_scale {n k x : Int} (hn : 0 < n) : (x * n ≤ k * n ↔ x ≤ k) ∧ (k * n ≤ x * n ↔ k ≤ x) :=
  ⟨⟨fun h => Int.le_of_mul_le_mul_right h hn, fun h => Int.mul_le_mul_of_nonneg_right h (Int.le_of_lt hn)⟩, ⟨fun h => Int.le_of_mul_le_mul_right h hn, fun h => Int.mul_le_mul_of_nonneg_right h (Int.le_of_lt hn)⟩⟩
end Hf

/-
  Plain: a set times an integer, and the integers that are in a set when they are multiplied by one.
-/
set_option linter.unusedVariables false
set_option linter.unusedSimpArgs false
namespace Hf
/-- q and m are x by n, cut downwards -/
def Cut (n x q m : Int) : Prop := x = q * n + m ∧ ((0 < n ∧ 0 ≤ m ∧ m < n) ∨ (n < 0 ∧ n < m ∧ m ≤ 0))
theorem mul_mono {a b n : Int} (hn : 0 ≤ n) (h : a ≤ b) : a * n ≤ b * n := Int.mul_le_mul_of_nonneg_right h hn
theorem mul_anti {a b n : Int} (hn : n ≤ 0) (h : a ≤ b) : b * n ≤ a * n := Int.mul_le_mul_of_nonpos_right h hn
theorem cut_le {n x q m k : Int} (h : Cut n x q m) (hn : 0 < n) : k * n ≤ x ↔ k ≤ q := by
  obtain ⟨e, h1 | h1⟩ := h
  · constructor
    · intro hk
      refine Int.not_lt.1 fun hlt => ?_
      have := mul_mono (n := n) (by omega) (show q + 1 ≤ k by omega)
      rw [Int.add_mul, Int.one_mul] at this
      omega
    · intro hk
      have := mul_mono (n := n) (by omega) hk
      omega
  · omega
theorem cut_ge {n x q m k : Int} (h : Cut n x q m) (hn : 0 < n) : x ≤ k * n ↔ (if m ≠ 0 then q + 1 else q) ≤ k := by
  obtain ⟨e, h1 | h1⟩ := h
  · by_cases hm : m = 0
    · rw [if_neg (by simpa using hm)]
      subst hm
      constructor
      · intro hk
        refine Int.not_lt.1 fun hlt => ?_
        have := mul_mono (n := n) (by omega) (show k + 1 ≤ q by omega)
        rw [Int.add_mul, Int.one_mul] at this
        omega
      · intro hk
        have := mul_mono (n := n) (by omega) hk
        omega
    · rw [if_pos hm]
      constructor
      · intro hk
        refine Int.not_lt.1 fun hlt => ?_
        have := mul_mono (n := n) (by omega) (show k ≤ q by omega)
        omega
      · intro hk
        have := mul_mono (n := n) (by omega) hk
        rw [Int.add_mul, Int.one_mul] at this
        omega
  · omega
theorem cut_neg {n x q m : Int} (h : Cut n x q m) : Cut (-n) (-x) q (-m) := by
  obtain ⟨e, h1⟩ := h
  refine ⟨by rw [Int.mul_neg]; omega, ?_⟩
  rcases h1 with h1 | h1
  · exact .inr (by omega)
  · exact .inl (by omega)
theorem cut_le' {n x q m k : Int} (h : Cut n x q m) (hn : n < 0) : x ≤ k * n ↔ k ≤ q := by
  rw [← cut_le (cut_neg h) (by omega) (k := k), Int.mul_neg]
  omega
theorem cut_ge' {n x q m k : Int} (h : Cut n x q m) (hn : n < 0) : k * n ≤ x ↔ (if m ≠ 0 then q + 1 else q) ≤ k := by
  have := cut_ge (k := k) (cut_neg h) (by omega)
  rw [Int.mul_neg] at this
  have e : (if -m ≠ 0 then q + 1 else q) = if m ≠ 0 then q + 1 else q := by
    by_cases hm : m = 0
    · subst hm; rfl
    · rw [if_pos hm, if_pos (by omega)]
  rw [e] at this
  rw [← this]
  omega
/-- an end times n -/
def mulE (n : Int) : Ed → Ed
  | .num x => .num (x * n)
  | .lo => if 0 < n then .lo else .hi
  | .hi => if 0 < n then .hi else .lo
def scR (n : Int) (r : R) : R := if 0 < n then (mulE n r.1, mulE n r.2) else (mulE n r.2, mulE n r.1)
theorem inR_sc {n k : Int} {r : R} (hn : n ≠ 0) : inR (k * n) (scR n r) ↔ inR k r := by
  obtain ⟨a, b⟩ := r
  unfold inR scR
  by_cases h : 0 < n
  · rw [if_pos h]
    have key : ∀ x : Int, (x * n ≤ k * n ↔ x ≤ k) ∧ (k * n ≤ x * n ↔ k ≤ x) := fun x => parts_scale h
    refine and_congr ?_ ?_
    · cases a with
      | lo => simp [mulE, h, lob]
      | hi => simp [mulE, h, lob]
      | num x => exact (key x).1
    · cases b with
      | lo => simp [mulE, h, hib]
      | hi => simp [mulE, h, hib]
      | num x => exact (key x).2
  · rw [if_neg h]
    have hneg : 0 < -n := by omega
    have key : ∀ x : Int, (x * n ≤ k * n ↔ k ≤ x) ∧ (k * n ≤ x * n ↔ x ≤ k) := fun x => by
      obtain ⟨h1, h2⟩ := parts_scale (n := -n) (k := k) (x := x) hneg
      rw [Int.mul_neg, Int.mul_neg] at h1 h2
      exact ⟨by rw [← h2]; omega, by rw [← h1]; omega⟩
    rw [and_comm]
    refine and_congr ?_ ?_
    · show hib (mulE n a) (k * n) ↔ lob a k
      cases a with
      | lo => simp [mulE, h, hib, lob]
      | hi => simp [mulE, h, hib, lob]
      | num x => exact (key x).2
    · show lob (mulE n b) (k * n) ↔ hib b k
      cases b with
      | lo => simp [mulE, h, hib, lob]
      | hi => simp [mulE, h, hib, lob]
      | num x => exact (key x).1
theorem mem_sc {n k : Int} {l : List R} (hn : n ≠ 0) : mem (k * n) (l.map (scR n)) ↔ mem k l := by
  simp only [mem, List.mem_map]
  constructor
  · rintro ⟨_, ⟨r, hr, rfl⟩, h⟩
    exact ⟨r, hr, (inR_sc hn).1 h⟩
  · rintro ⟨r, hr, h⟩
    exact ⟨_, ⟨r, hr, rfl⟩, (inR_sc hn).2 h⟩
/-- the least whose product is not below, the greatest whose product is not above -/
def upE (n : Int) (q m : Int → Int) : Ed → Ed
  | .num x => .num (if m x ≠ 0 then q x + 1 else q x)
  | .lo => if 0 < n then .lo else .hi
  | .hi => if 0 < n then .hi else .lo
def downE (n : Int) (q : Int → Int) : Ed → Ed
  | .num x => .num (q x)
  | .lo => if 0 < n then .lo else .hi
  | .hi => if 0 < n then .hi else .lo
def paR (n : Int) (q m : Int → Int) (r : R) : R := if 0 < n then (upE n q m r.1, downE n q r.2) else (upE n q m r.2, downE n q r.1)
theorem inR_pa {n k : Int} {q m : Int → Int} {r : R} (hn : n ≠ 0) (hq : ∀ x, Cut n x (q x) (m x)) : inR k (paR n q m r) ↔ inR (k * n) r := by
  obtain ⟨a, b⟩ := r
  unfold inR paR
  by_cases h : 0 < n
  · rw [if_pos h]
    refine and_congr ?_ ?_
    · cases a with
      | lo => simp [upE, h, lob]
      | hi => simp [upE, h, lob]
      | num x => exact (cut_ge (hq x) h).symm
    · cases b with
      | lo => simp [downE, h, hib]
      | hi => simp [downE, h, hib]
      | num x => exact (cut_le (hq x) h).symm
  · rw [if_neg h]
    have hneg : n < 0 := by omega
    rw [and_comm]
    refine and_congr ?_ ?_
    · show hib (downE n q a) k ↔ lob a (k * n)
      cases a with
      | lo => simp [downE, h, hib, lob]
      | hi => simp [downE, h, hib, lob]
      | num x => exact (cut_le' (hq x) hneg).symm
    · show lob (upE n q m b) k ↔ hib b (k * n)
      cases b with
      | lo => simp [upE, h, hib, lob]
      | hi => simp [upE, h, hib, lob]
      | num x => exact (cut_ge' (hq x) hneg).symm
theorem mem_pa {n k : Int} {q m : Int → Int} {l : List R} (hn : n ≠ 0) (hq : ∀ x, Cut n x (q x) (m x)) : mem k (l.map (paR n q m)) ↔ mem (k * n) l := by
  simp only [mem, List.mem_map]
  constructor
  · rintro ⟨_, ⟨r, hr, rfl⟩, h⟩
    exact ⟨r, hr, (inR_pa hn hq).1 h⟩
  · rintro ⟨r, hr, h⟩
    exact ⟨_, ⟨r, hr, rfl⟩, (inR_pa hn hq).2 h⟩
end Hf


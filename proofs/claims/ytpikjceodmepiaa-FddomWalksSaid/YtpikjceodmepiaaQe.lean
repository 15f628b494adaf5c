/-
  Plain: the pieces of two sets from below (the program's merge).
-/
import Derived.Test.YtpikjceodmepiaaQd
set_option linter.unusedVariables false
set_option linter.unusedSimpArgs false
namespace Hf
/-- is an end in a set, and up to where does that stay so -/
def pieceP : List R → Ed → Bool × Ed
  | [], _ => (false, .hi)
  | r :: d, low => if leE r.1 low then (if leE low r.2 then (true, r.2) else pieceP d low) else (false, match r.1 with | .num x => .num (x - 1) | e => e)
/-- z lies below the end -/
def below (z : Int) : Ed → Prop
  | .lo => False
  | .num x => z < x
  | .hi => True
theorem memB_cons {z : Int} {r : R} {d : List R} : memB z (r :: d) = (inB z r || memB z d) := rfl
theorem piece_spec : ∀ {d : List R} {low : Ed}, NF d → low ≠ .hi → (∀ z, ¬ below z low → hib (pieceP d low).2 z → memB z d = (pieceP d low).1) ∧ ((pieceP d low).2 = .hi ∨ ∃ y, (pieceP d low).2 = .num y ∧ lob low y)
  | [], low, _, _ => ⟨fun z _ _ => rfl, .inl rfl⟩
  | r :: d, low, h, hl => by
    obtain ⟨z0, o1, o2⟩ := h.head
    by_cases c1 : leE r.1 low
    · by_cases c2 : leE low r.2
      · rw [show pieceP (r :: d) low = (true, r.2) from (if_pos c1).trans (if_pos c2)]
        refine ⟨fun z h1 h2 => ?_, ?_⟩
        · refine memB_iff.2 (mem_cons.2 (.inl ⟨?_, h2⟩))
          refine leE_lob c1 ?_
          cases low with
          | lo => trivial
          | hi => exact (hl rfl).elim
          | num x => show x ≤ z; exact Int.not_lt.1 h1
        · cases e : r.2 with
          | hi => exact .inl rfl
          | lo => rw [e] at o2; exact o2.elim
          | num y =>
            refine .inr ⟨y, rfl, ?_⟩
            rw [e] at c2
            cases low with
            | lo => trivial
            | hi => exact (hl rfl).elim
            | num x => exact c2
      · rw [show pieceP (r :: d) low = pieceP d low from (if_pos c1).trans (if_neg c2)]
        obtain ⟨i1, i2⟩ := piece_spec (low := low) h.tail hl
        refine ⟨fun z h1 h2 => ?_, i2⟩
        rw [memB_cons, i1 z h1 h2]
        have : inB z r = false := by
          refine Bool.eq_false_iff.2 fun k => ?_
          have k2 := (inB_iff.1 k).2
          cases low with
          | lo => exact c2 trivial
          | hi => exact hl rfl
          | num x =>
            cases e : r.2 with
            | hi => rw [e] at c2; exact c2 trivial
            | lo => rw [e] at k2; exact k2
            | num y =>
              rw [e] at c2 k2
              have c2 : ¬ x ≤ y := c2
              have k2 : z ≤ y := k2
              have h1 : ¬ z < x := h1
              omega
        rw [this, Bool.false_or]
    · cases e : r.1 with
      | lo => rw [e] at c1; exact (c1 trivial).elim
      | hi => rw [e] at o1; exact o1.elim
      | num x =>
        rw [show pieceP (r :: d) low = (false, .num (x - 1)) from by unfold pieceP; rw [if_neg c1, e]]
        rw [e] at c1
        refine ⟨fun z h1 h2 => ?_, .inr ⟨x - 1, rfl, ?_⟩⟩
        · refine Bool.eq_false_iff.2 fun k => ?_
          have := h.below (memB_iff.1 k)
          rw [e] at this
          have k1 : x ≤ z := this
          have k2 : z ≤ x - 1 := h2
          omega
        · cases low with
          | lo => trivial
          | hi => exact (hl rfl).elim
          | num y =>
            have c1 : ¬ x ≤ y := c1
            show y ≤ x - 1
            omega
/-- what has been kept so far, below the end low -/
structure MI (w : Bool → Bool → Bool) (a b out : List R) (low : Ed) : Prop where
  ok : ∀ r ∈ out, ok r
  srt : out.Pairwise fun r s => leE r.1 s.1
  le : ∀ r ∈ out, leE r.1 low
  mem : ∀ z, mem z out ↔ below z low ∧ w (memB z a) (memB z b) = true
theorem MI.start {w : Bool → Bool → Bool} {a b : List R} : MI w a b [] .lo := ⟨by simp, List.Pairwise.nil, by simp, fun z => ⟨fun h => (mem_nil h).elim, fun h => h.1.elim⟩⟩
theorem mem_append {z : Int} {l m : List R} : mem z (l ++ m) ↔ mem z l ∨ mem z m := by
  simp only [mem, List.mem_append]
  constructor
  · rintro ⟨r, h | h, k⟩
    · exact .inl ⟨r, h, k⟩
    · exact .inr ⟨r, h, k⟩
  · rintro (⟨r, h, k⟩ | ⟨r, h, k⟩)
    · exact ⟨r, .inl h, k⟩
    · exact ⟨r, .inr h, k⟩
def minE (a b : Ed) : Ed := if leE b a ∧ ¬ leE a b then b else a
theorem minE_hib {a b : Ed} {z : Int} (h : hib (minE a b) z) : hib a z ∧ hib b z := by
  unfold minE at h
  by_cases c : leE b a ∧ ¬ leE a b
  · rw [if_pos c] at h
    exact ⟨leE_hib c.1 h, h⟩
  · rw [if_neg c] at h
    refine ⟨h, leE_hib (a := a) ?_ h⟩
    by_cases k : leE a b
    · exact k
    · exact (c ⟨leE_total k, k⟩).elim
theorem minE_or (a b : Ed) : minE a b = a ∨ minE a b = b := by
  unfold minE
  by_cases c : leE b a ∧ ¬ leE a b
  · rw [if_pos c]; exact .inr rfl
  · rw [if_neg c]; exact .inl rfl
/-- one round -/
theorem MI.step {w : Bool → Bool → Bool} {a b out : List R} {low : Ed} (h : MI w a b out low) (ha : NF a) (hb : NF b) (hl : low ≠ .hi) {e : Ed} (he : minE (pieceP a low).2 (pieceP b low).2 = e) :
    MI w a b (out ++ if w (pieceP a low).1 (pieceP b low).1 = true then [(low, e)] else []) (succE e) ∧ (e = .hi ∨ ∃ y, e = .num y ∧ lob low y) := by
  obtain ⟨a1, a2⟩ := piece_spec (low := low) ha hl
  obtain ⟨b1, b2⟩ := piece_spec (low := low) hb hl
  have hcase : e = .hi ∨ ∃ y, e = .num y ∧ lob low y := by
    rw [← he]
    rcases minE_or (pieceP a low).2 (pieceP b low).2 with k | k <;> rw [k]
    · exact a2
    · exact b2
  have hle : leE low (succE e) := by
    rcases hcase with rfl | ⟨y, rfl, hy⟩
    · cases low <;> trivial
    · cases low with
      | lo => trivial
      | hi => exact (hl rfl).elim
      | num x => have hy : x ≤ y := hy; show x ≤ y + 1; omega
  have hin : ∀ z, ¬ below z low → hib e z → w (memB z a) (memB z b) = w (pieceP a low).1 (pieceP b low).1 := fun z h1 h2 => by
    rw [← he] at h2
    obtain ⟨k1, k2⟩ := minE_hib h2
    rw [a1 z h1 k1, b1 z h1 k2]
  have hbz : ∀ z, below z (succE e) ↔ below z low ∨ (¬ below z low ∧ hib e z) := fun z => by
    rcases hcase with rfl | ⟨y, rfl, hy⟩
    · by_cases k : below z low
      · exact ⟨fun _ => .inl k, fun _ => trivial⟩
      · exact ⟨fun _ => .inr ⟨k, trivial⟩, fun _ => trivial⟩
    · show z < y + 1 ↔ below z low ∨ (¬ below z low ∧ z ≤ y)
      cases low with
      | lo =>
        show z < y + 1 ↔ False ∨ (¬ False ∧ z ≤ y)
        constructor
        · exact fun k => .inr ⟨id, by omega⟩
        · rintro (k | ⟨_, k⟩)
          · exact k.elim
          · omega
      | hi => exact (hl rfl).elim
      | num x =>
        have hy : x ≤ y := hy
        show z < y + 1 ↔ z < x ∨ (¬ z < x ∧ z ≤ y)
        omega
  have hlow : ∀ z, inR z (low, e) ↔ ¬ below z low ∧ hib e z := fun z => by
    refine and_congr ?_ Iff.rfl
    cases low with
    | lo => exact ⟨fun _ => id, fun _ => trivial⟩
    | hi => exact (hl rfl).elim
    | num x => exact ⟨fun k => Int.not_lt.2 k, fun k => Int.not_lt.1 k⟩
  refine ⟨?_, hcase⟩
  by_cases c : w (pieceP a low).1 (pieceP b low).1 = true
  · rw [if_pos c]
    refine ⟨fun r hr => ?_, ?_, fun r hr => ?_, fun z => ?_⟩
    · rcases List.mem_append.1 hr with hr | hr
      · exact h.ok r hr
      · obtain rfl := List.mem_singleton.1 hr
        rcases hcase with rfl | ⟨y, rfl, hy⟩
        · cases low with
          | lo => exact ⟨0, trivial, trivial⟩
          | hi => exact (hl rfl).elim
          | num x => exact ⟨x, Int.le_refl x, trivial⟩
        · exact ⟨y, hy, Int.le_refl y⟩
    · refine List.pairwise_append.2 ⟨h.srt, List.pairwise_singleton _ _, fun r hr s hs => ?_⟩
      obtain rfl := List.mem_singleton.1 hs
      exact h.le r hr
    · rcases List.mem_append.1 hr with hr | hr
      · exact leE_trans (h.le r hr) hle
      · obtain rfl := List.mem_singleton.1 hr
        exact hle
    · rw [mem_append, h.mem, mem_cons, hlow, hbz]
      constructor
      · rintro (⟨k1, k2⟩ | ⟨k1, k2⟩ | k)
        · exact ⟨.inl k1, k2⟩
        · exact ⟨.inr ⟨k1, k2⟩, by rw [hin z k1 k2]; exact c⟩
        · exact (mem_nil k).elim
      · rintro ⟨k1 | ⟨k1, k2⟩, k3⟩
        · exact .inl ⟨k1, k3⟩
        · exact .inr (.inl ⟨k1, k2⟩)
  · rw [if_neg c, List.append_nil]
    refine ⟨h.ok, h.srt, fun r hr => leE_trans (h.le r hr) hle, fun z => ?_⟩
    rw [h.mem, hbz]
    constructor
    · exact fun ⟨k1, k2⟩ => ⟨.inl k1, k2⟩
    · rintro ⟨k1 | ⟨k1, k2⟩, k3⟩
      · exact ⟨k1, k3⟩
      · rw [hin z k1 k2] at k3
        exact (c k3).elim
/-- the end of the loop: what was kept, put into normal form, is what the document builds -/
theorem MI.done {w : Bool → Bool → Bool} {a b out a' b' : List R} {t : List Int} (h : MI w a b out .hi) (hA : ∀ z, Hf.mem z a ↔ Hf.mem z a') (hB : ∀ z, Hf.mem z b ↔ Hf.mem z b') (ht : t.Pairwise (· < ·)) (hta : ∀ x ∈ rawT a', x ∈ t) (htb : ∀ x ∈ rawT b', x ∈ t) : normalP out = builtP w a' b' t := by
  obtain ⟨h1, h2⟩ := normalP_NF h.ok h.srt
  obtain ⟨h3, h4⟩ := built_spec (w := w) ht hta htb
  refine h1.uniq h3 fun z => ?_
  have e1 : memB z a = memB z a' := Bool.eq_iff_iff.2 (by rw [memB_iff, memB_iff]; exact hA z)
  have e2 : memB z b = memB z b' := Bool.eq_iff_iff.2 (by rw [memB_iff, memB_iff]; exact hB z)
  rw [h2, h4, h.mem, e1, e2]
  exact ⟨And.right, fun k => ⟨trivial, k⟩⟩
end Hf

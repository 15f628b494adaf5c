/-
  Plain: the program's way to the normal form (sorted by the lower ends, then merged).
-/
import Derived.Test.YtpikjceodmepiaaQa
set_option linter.unusedVariables false
set_option linter.unusedSimpArgs false
namespace Hf
def leE : Ed → Ed → Prop
  | .lo, _ => True
  | _, .hi => True
  | .num x, .num y => x ≤ y
  | _, _ => False
instance : (a b : Ed) → Decidable (leE a b)
  | .lo, .lo => isTrue trivial
  | .lo, .num _ => isTrue trivial
  | .lo, .hi => isTrue trivial
  | .num _, .hi => isTrue trivial
  | .hi, .hi => isTrue trivial
  | .num x, .num y => inferInstanceAs (Decidable (x ≤ y))
  | .num _, .lo => isFalse id
  | .hi, .lo => isFalse id
  | .hi, .num _ => isFalse id
def succE : Ed → Ed
  | .num x => .num (x + 1)
  | e => e
theorem leE_refl (a : Ed) : leE a a := by cases a <;> simp [leE]
theorem leE_trans {a b c : Ed} (h : leE a b) (k : leE b c) : leE a c := by
  cases a <;> cases b <;> cases c <;> simp_all [leE]
  omega
theorem leE_lob {a b : Ed} {z : Int} (h : leE a b) (k : lob b z) : lob a z := by
  cases a <;> cases b <;> simp_all [leE, lob]
  omega
theorem leE_hib {a b : Ed} {z : Int} (h : leE a b) (k : hib a z) : hib b z := by
  cases a <;> cases b <;> simp_all [leE, hib]
  omega
theorem Sep.lt {r s : R} (h : Sep r s) (hs : ok s) {y : Int} (hy : s.2 = .num y) : ∃ x, r.2 = .num x ∧ x + 1 < y + 1 := by
  obtain ⟨a, b, e1, e2, hab⟩ := h
  obtain ⟨z, h1, h2⟩ := hs
  rw [e2] at h1
  rw [hy] at h2
  change b ≤ z at h1
  change z ≤ y at h2
  exact ⟨a, e1, by omega⟩
theorem Sep.trans {r s t : R} (h : Sep r s) (hs : ok s) (k : Sep s t) : Sep r t := by
  obtain ⟨y, x, e1, e2, h1⟩ := k
  obtain ⟨a, e3, h2⟩ := h.lt hs e1
  exact ⟨a, x, e3, e2, by omega⟩
theorem NF.iff : ∀ {l : List R}, NF l ↔ (∀ r ∈ l, ok r) ∧ l.Pairwise Sep
  | [] => by simp [NF]
  | [r] => by simp [NF]
  | r :: s :: l => by
    have ih := NF.iff (l := s :: l)
    show (ok r ∧ Sep r s ∧ NF (s :: l)) ↔ _
    rw [ih]
    constructor
    · rintro ⟨h1, h2, h3, h4⟩
      refine ⟨fun t ht => ?_, List.pairwise_cons.2 ⟨fun t ht => ?_, h4⟩⟩
      · rcases List.mem_cons.1 ht with rfl | ht
        · exact h1
        · exact h3 t ht
      · rcases List.mem_cons.1 ht with rfl | ht
        · exact h2
        · exact h2.trans (h3 s List.mem_cons_self) ((List.pairwise_cons.1 h4).1 t ht)
    · rintro ⟨h1, h2⟩
      obtain ⟨h3, h4⟩ := List.pairwise_cons.1 h2
      exact ⟨h1 r List.mem_cons_self, h3 s List.mem_cons_self, fun t ht => h1 t (List.mem_cons_of_mem _ ht), h4⟩
/-- one range more, behind those that stand (the last first) -/
def pushR : List R → R → List R
  | [], r => [r]
  | s :: acc, r => if leE r.1 (succE s.2) then (if leE r.2 s.2 then s :: acc else (s.1, r.2) :: acc) else r :: s :: acc
def PInv (acc : List R) : Prop := (∀ r ∈ acc, ok r) ∧ acc.Pairwise fun a b => Sep b a
theorem leE_total {a b : Ed} (h : ¬ leE a b) : leE b a := by
  cases a <;> cases b <;> simp_all [leE]
  omega
theorem push_inv {acc : List R} {r : R} (h : PInv acc) (hr : ok r) (hle : ∀ s ∈ acc, leE s.1 r.1) : PInv (pushR acc r) ∧ (∀ z, mem z (pushR acc r) ↔ mem z acc ∨ inR z r) ∧ ∀ s ∈ pushR acc r, leE s.1 r.1 := by
  cases acc with
  | nil =>
    refine ⟨⟨by simpa [pushR] using hr, by simp [pushR]⟩, fun z => ?_, by simp [pushR, leE_refl]⟩
    show mem z [r] ↔ _
    rw [mem_cons]
    constructor
    · rintro (h | h)
      · exact .inr h
      · exact (mem_nil h).elim
    · rintro (h | h)
      · exact (mem_nil h).elim
      · exact .inl h
  | cons s acc =>
    obtain ⟨h1, h2⟩ := h
    obtain ⟨h3, h4⟩ := List.pairwise_cons.1 h2
    have hs := h1 s List.mem_cons_self
    have hsr := hle s List.mem_cons_self
    have hpe : pushR (s :: acc) r = if leE r.1 (succE s.2) then (if leE r.2 s.2 then s :: acc else (s.1, r.2) :: acc) else r :: s :: acc := rfl
    rw [hpe]
    by_cases c1 : leE r.1 (succE s.2)
    · rw [if_pos c1]
      by_cases c2 : leE r.2 s.2
      · rw [if_pos c2]
        refine ⟨⟨h1, h2⟩, fun z => ?_, hle⟩
        constructor
        · exact .inl
        · rintro (h | h)
          · exact h
          · exact mem_cons.2 (.inl ⟨leE_lob hsr h.1, leE_hib c2 h.2⟩)
      · rw [if_neg c2]
        have c3 := leE_total c2
        refine ⟨⟨fun t ht => ?_, List.pairwise_cons.2 ⟨fun t ht => ?_, h4⟩⟩, fun z => ?_, fun t ht => ?_⟩
        · rcases List.mem_cons.1 ht with rfl | ht
          · obtain ⟨z, k1, k2⟩ := hs
            exact ⟨z, k1, leE_hib c3 k2⟩
          · exact h1 t (List.mem_cons_of_mem _ ht)
        · obtain ⟨y, x, e1, e2, k⟩ := h3 t ht
          exact ⟨y, x, e1, e2, k⟩
        · rw [mem_cons, mem_cons]
          constructor
          · rintro (h | h)
            · by_cases c4 : hib s.2 z
              · exact .inl (.inl ⟨h.1, c4⟩)
              · refine .inr ⟨?_, h.2⟩
                cases e : s.2 with
                | lo =>
                  obtain ⟨z', _, k2⟩ := hs
                  rw [e] at k2
                  exact k2.elim
                | hi => rw [e] at c4; exact (c4 trivial).elim
                | num y =>
                  rw [e] at c4 c1
                  refine leE_lob c1 ?_
                  show y + 1 ≤ z
                  have : ¬ z ≤ y := c4
                  omega
            · exact .inl (.inr h)
          · rintro ((h | h) | h)
            · exact .inl ⟨h.1, leE_hib c3 h.2⟩
            · exact .inr h
            · exact .inl ⟨leE_lob hsr h.1, h.2⟩
        · rcases List.mem_cons.1 ht with rfl | ht
          · exact hsr
          · exact hle t (List.mem_cons_of_mem _ ht)
    · rw [if_neg c1]
      have hsep : Sep s r := by
        cases e : s.2 with
        | lo =>
          obtain ⟨z', _, k2⟩ := hs
          rw [e] at k2
          exact k2.elim
        | hi => rw [e] at c1; cases e2 : r.1 <;> rw [e2] at c1 <;> simp [succE, leE] at c1
        | num y =>
          rw [e] at c1
          cases e2 : r.1 with
          | lo => rw [e2] at c1; simp [leE] at c1
          | hi =>
            obtain ⟨z', k1, _⟩ := hr
            rw [e2] at k1
            exact k1.elim
          | num x =>
            rw [e2] at c1
            refine ⟨y, x, e, e2, ?_⟩
            have : ¬ x ≤ y + 1 := c1
            omega
      refine ⟨⟨fun t ht => ?_, List.pairwise_cons.2 ⟨fun t ht => ?_, h2⟩⟩, fun z => ?_, fun t ht => ?_⟩
      · rcases List.mem_cons.1 ht with rfl | ht
        · exact hr
        · exact h1 t ht
      · rcases List.mem_cons.1 ht with rfl | ht
        · exact hsep
        · exact (h3 t ht).trans hs hsep
      · rw [mem_cons]
        exact ⟨fun h => h.symm, fun h => h.symm⟩
      · rcases List.mem_cons.1 ht with rfl | ht
        · exact leE_refl _
        · exact hle t ht
def normalP (l : List R) : List R := (l.foldl pushR []).reverse
theorem fold_inv : ∀ {l acc : List R}, PInv acc → (∀ r ∈ l, ok r) → l.Pairwise (fun a b => leE a.1 b.1) → (∀ s ∈ acc, ∀ r ∈ l, leE s.1 r.1) → PInv (l.foldl pushR acc) ∧ ∀ z, mem z (l.foldl pushR acc) ↔ mem z acc ∨ mem z l
  | [], acc, h, _, _, _ => ⟨h, fun z => ⟨.inl, fun k => k.elim id fun k => (mem_nil k).elim⟩⟩
  | r :: l, acc, h, hok, hp, hle => by
    obtain ⟨p1, p2⟩ := List.pairwise_cons.1 hp
    obtain ⟨k1, k2, k3⟩ := push_inv h (hok r List.mem_cons_self) (fun s hs => hle s hs r List.mem_cons_self)
    obtain ⟨i1, i2⟩ := fold_inv k1 (fun t ht => hok t (List.mem_cons_of_mem _ ht)) p2 (fun s hs t ht => leE_trans (k3 s hs) (p1 t ht))
    refine ⟨i1, fun z => ?_⟩
    show mem z (l.foldl pushR (pushR acc r)) ↔ _
    rw [i2, k2, mem_cons]
    exact or_assoc
theorem mem_reverse {z : Int} {l : List R} : mem z l.reverse ↔ mem z l := by simp [mem]
/-- the program's normal form is normal, and the same set -/
theorem normalP_NF {l : List R} (hok : ∀ r ∈ l, ok r) (hp : l.Pairwise (fun a b => leE a.1 b.1)) : NF (normalP l) ∧ ∀ z, mem z (normalP l) ↔ mem z l := by
  obtain ⟨⟨h1, h2⟩, h3⟩ := fold_inv (l := l) (acc := []) ⟨by simp, List.Pairwise.nil⟩ hok hp (by simp)
  refine ⟨NF.iff.2 ⟨fun r hr => h1 r (by simpa [normalP] using hr), List.pairwise_reverse.2 h2⟩, fun z => ?_⟩
  unfold normalP
  rw [mem_reverse, h3]
  exact ⟨fun h => h.elim (fun k => (mem_nil k).elim) id, .inr⟩
end Hf

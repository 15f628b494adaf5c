/-
  Plain: parts of a term that may be may be too; what a body becomes may be, if it is not too great. No program in sight.
-/
import Derived.Test.YtgfeainpeplphaaDoorHc
namespace Ht
section
variable {utf canon : List UInt8 → Bool} {flo : Int → Bool}
theorem errss_iff {as : List Tm} : errss utf canon flo as = 0 ↔ ∀ a ∈ as, errs utf canon flo a = 0 := by
  induction as with
  | nil => simp [errss]
  | cons a as ih =>
    rw [errss]
    by_cases h : errs utf canon flo a = 0
    · rw [if_neg (by simp [h]), ih]; simp [h]
    · rw [if_pos h]; simp [h]
theorem errs_iff {t : Tm} : errs utf canon flo t = 0 ↔ one utf canon flo t = 0 ∧ ∀ a ∈ t.as, errs utf canon flo a = 0 := by
  obtain ⟨k, n, m, b, v, as⟩ := t
  rw [errs, ← errss_iff]
  show _ ↔ _ ∧ errss utf canon flo as = 0
  by_cases h : one utf canon flo (.mk k n m b v as) = 0
  · rw [if_neg (by simp [h])]; simp [h]
  · rw [if_pos h]; simp [h]
theorem check_iff {t : Tm} : check utf canon flo t = 0 ↔ sz t ≤ 4000 ∧ errs utf canon flo t = 0 := by
  unfold check
  by_cases h : 4000 < nodes t
  · rw [if_pos h]
    have : ¬ sz t ≤ 4000 := fun h2 => by rw [← nodes_le] at h2; omega
    simp [this]
  · rw [if_neg h]
    have : sz t ≤ 4000 := nodes_le.1 (by omega)
    simp [this]
theorem sz_arg {t a : Tm} (h : a ∈ t.as) : sz a < sz t := by
  obtain ⟨k, n, m, b, v, as⟩ := t
  have := sz_mem (show a ∈ as from h)
  simp only [sz]; omega
theorem check_arg {t a : Tm} (h : check utf canon flo t = 0) (ha : a ∈ t.as) : check utf canon flo a = 0 := by
  rw [check_iff] at h ⊢
  have := sz_arg ha
  exact ⟨by omega, (errs_iff.1 h.2).2 a ha⟩
/-- what is right with a node -/
theorem one_iff {t : Tm} : one utf canon flo t = 0 ↔ (1 ≤ t.k ∧ t.k ≤ 5) ∧ stray t = false ∧ 0 ≤ t.v ∧ (t.k = 5 → 1 ≤ t.as.length ∧ t.as.length ≤ 64) ∧ utf t.n = true ∧ t.n.length ≤ 1000 ∧ (t.k = 3 → canon t.m = true) ∧ (t.k = 4 → flo t.b = true) := by
  unfold one
  by_cases h1 : t.k < 1 ∨ 5 < t.k ∨ stray t = true ∨ t.v < 0 ∨ (t.k = 5 ∧ (t.as.length = 0 ∨ 64 < t.as.length))
  · rw [if_pos h1]
    constructor
    · intro h; cases h
    · rintro ⟨a1, a2, a3, a4, _⟩
      rcases h1 with h | h | h | h | ⟨h, h2⟩
      · omega
      · omega
      · rw [a2] at h; cases h
      · omega
      · have := a4 h; omega
  · rw [if_neg h1]
    have hs : stray t = false := by
      cases h : stray t with
      | false => rfl
      | true => exact absurd (.inr (.inr (.inl h))) h1
    have h5 : t.k = 5 → 1 ≤ t.as.length ∧ t.as.length ≤ 64 := fun h => by
      constructor
      · refine Decidable.byContradiction fun hn => h1 (.inr (.inr (.inr (.inr ⟨h, .inl (by omega)⟩))))
      · refine Decidable.byContradiction fun hn => h1 (.inr (.inr (.inr (.inr ⟨h, .inr (by omega)⟩))))
    have hk : 1 ≤ t.k ∧ t.k ≤ 5 := ⟨Decidable.byContradiction fun hn => h1 (.inl (by omega)), Decidable.byContradiction fun hn => h1 (.inr (.inl (by omega)))⟩
    have hv : 0 ≤ t.v := Decidable.byContradiction fun hn => h1 (.inr (.inr (.inr (.inl (by omega)))))
    by_cases h2 : utf t.n = false ∨ 1000 < t.n.length
    · rw [if_pos h2]
      constructor
      · intro h; cases h
      · rintro ⟨_, _, _, _, a5, a6, _⟩
        rcases h2 with h | h
        · rw [a5] at h; cases h
        · omega
    · rw [if_neg h2]
      have hu : utf t.n = true := by
        cases h : utf t.n with
        | true => rfl
        | false => exact absurd (.inl h) h2
      have hl : t.n.length ≤ 1000 := Decidable.byContradiction fun hn => h2 (.inr (by omega))
      by_cases h3 : t.k = 3 ∧ canon t.m = false
      · rw [if_pos h3]
        constructor
        · intro h; cases h
        · rintro ⟨_, _, _, _, _, _, a7, _⟩
          rw [a7 h3.1] at h3; cases h3.2
      · rw [if_neg h3]
        have hc : t.k = 3 → canon t.m = true := fun h => by
          cases h9 : canon t.m with
          | true => rfl
          | false => exact absurd ⟨h, h9⟩ h3
        by_cases h4 : t.k = 4 ∧ flo t.b = false
        · rw [if_pos h4]
          constructor
          · intro h; cases h
          · rintro ⟨_, _, _, _, _, _, _, a8⟩
            rw [a8 h4.1] at h4; cases h4.2
        · rw [if_neg h4]
          have hf : t.k = 4 → flo t.b = true := fun h => by
            cases h9 : flo t.b with
            | true => rfl
            | false => exact absurd ⟨h, h9⟩ h4
          exact ⟨fun _ => ⟨hk, hs, hv, h5, hu, hl, hc, hf⟩, fun _ => rfl⟩
theorem check_one {t : Tm} (h : check utf canon flo t = 0) : one utf canon flo t = 0 := (errs_iff.1 (check_iff.1 h).2).1
/-- a list's elements and end -/
theorem elems_check (t : Tm) : check utf canon flo t = 0 → (∀ a ∈ (elems t).1, check utf canon flo a = 0) ∧ check utf canon flo (elems t).2 = 0 := by
  refine Tm.ind (p := fun t => check utf canon flo t = 0 → (∀ a ∈ (elems t).1, check utf canon flo a = 0) ∧ check utf canon flo (elems t).2 = 0) (fun k n m b v as ih h => ?_) t
  rcases elems_eq (.mk k n m b v as) with e | ⟨n', m', b', v', y, z, e, e2⟩
  · rw [e]; exact ⟨by simp, h⟩
  · rw [e2]
    cases e
    have hz := ih z (by simp) (check_arg h (by simp [Tm.as]))
    refine ⟨fun a ha => ?_, hz.2⟩
    rcases List.mem_cons.1 ha with rfl | ha
    · exact check_arg h (by simp [Tm.as])
    · exact hz.1 a ha
theorem elems_len (t : Tm) : (elems t).1.length < sz t := by
  refine Tm.ind (p := fun t => (elems t).1.length < sz t) (fun k n m b v as ih => ?_) t
  rcases elems_eq (.mk k n m b v as) with e | ⟨n', m', b', v', y, z, e, e2⟩
  · rw [e]; exact sz_pos _
  · rw [e2]
    cases e
    have := ih z (by simp)
    simp only [sz, szs, List.length_cons]
    omega
/-! ### what was made may be -/
/-- the names that making puts in -/
def Names (utf : List UInt8 → Bool) : Prop := utf sComma = true ∧ utf sSemi = true ∧ utf sDot = true ∧ utf sNot = true ∧ utf sEq = true ∧ utf sTrue = true ∧ utf sPhrase = true ∧ utf sNeck = true ∧ utf [] = true
theorem errs_cmp {s : List UInt8} {as : List Tm} (hu : utf s = true) (hs : s.length ≤ 1000) (hl : 1 ≤ as.length ∧ as.length ≤ 64) (ha : ∀ a ∈ as, errs utf canon flo a = 0) : errs utf canon flo (cmpT s as) = 0 := by
  rw [errs_iff]
  refine ⟨?_, ha⟩
  rw [one_iff]
  unfold cmpT
  simp only [Tm.k, Tm.n, Tm.m, Tm.b, Tm.v, Tm.as, stray]
  exact ⟨by decide, by simp, by decide, fun _ => hl, hu, hs, fun h => absurd h (by decide), fun h => absurd h (by decide)⟩
theorem errs_var {x : Int} (hn : utf [] = true) (hx : 0 ≤ x) : errs utf canon flo (varT x) = 0 := by
  rw [errs_iff]
  refine ⟨?_, fun a ha => by simp [varT, Tm.as] at ha⟩
  rw [one_iff]
  unfold varT
  simp only [Tm.k, Tm.n, Tm.m, Tm.b, Tm.v, Tm.as, stray]
  exact ⟨by decide, by simp, hx, fun h => absurd h (by decide), hn, by decide, fun h => absurd h (by decide), fun h => absurd h (by decide)⟩
theorem errs_atom {s : List UInt8} (hu : utf s = true) (hs : s.length ≤ 1000) : errs utf canon flo (atomT s) = 0 := by
  rw [errs_iff]
  refine ⟨?_, fun a ha => by simp [atomT, Tm.as] at ha⟩
  rw [one_iff]
  unfold atomT
  simp only [Tm.k, Tm.n, Tm.m, Tm.b, Tm.v, Tm.as, stray]
  exact ⟨by decide, by simp, by decide, fun h => absurd h (by decide), hu, hs, fun h => absurd h (by decide), fun h => absurd h (by decide)⟩
theorem errs_eqT {f to : Tm} (hN : Names utf) (hf : errs utf canon flo f = 0) (ht : errs utf canon flo to = 0) : errs utf canon flo (eqT f to) = 0 :=
  errs_cmp hN.2.2.2.2.1 (by decide) (by simp) (fun a ha => by
    rcases List.mem_cons.1 ha with rfl | ha
    · exact hf
    · rw [List.mem_singleton.1 ha]; exact ht)
theorem errs_two {s : List UInt8} {f to : Tm} (hs : utf s = true) (hl : s.length ≤ 1000) (hf : errs utf canon flo f = 0) (ht : errs utf canon flo to = 0) : errs utf canon flo (cmpT s [f, to]) = 0 :=
  errs_cmp hs hl (by simp) (fun a ha => by
    rcases List.mem_cons.1 ha with rfl | ha
    · exact hf
    · rw [List.mem_singleton.1 ha]; exact ht)
theorem errs_endT {l : List Tm} {e : Tm} (hN : Names utf) (hl : ∀ a ∈ l, errs utf canon flo a = 0) (he : errs utf canon flo e = 0) : errs utf canon flo (endT l e) = 0 := by
  induction l with
  | nil => exact he
  | cons a l ih =>
    exact errs_two hN.2.2.1 (by decide) (hl a (by simp)) (ih (fun x hx => hl x (by simp [hx])))
theorem elems_errs (t : Tm) : errs utf canon flo t = 0 → ∀ a ∈ (elems t).1, errs utf canon flo a = 0 := by
  refine Tm.ind (p := fun t => errs utf canon flo t = 0 → ∀ a ∈ (elems t).1, errs utf canon flo a = 0) (fun k n m b v as ih h => ?_) t
  rcases elems_eq (.mk k n m b v as) with e | ⟨n', m', b', v', y, z, e, e2⟩
  · rw [e]; simp
  · rw [e2]
    cases e
    have hh := (errs_iff.1 h).2
    intro a ha
    rcases List.mem_cons.1 ha with rfl | ha
    · exact hh a (by simp [Tm.as])
    · exact ih z (by simp) (hh z (by simp [Tm.as])) a ha
theorem Mk.errs {t f to g : Tm} {nx n' : Int} (hN : Names utf) (h : Mk t f to nx g n') : 0 ≤ nx → errs utf canon flo t = 0 → errs utf canon flo f = 0 → errs utf canon flo to = 0 → errs utf canon flo g = 0 := by
  obtain ⟨n1, n2, n3, n4, n5, n6, n7, n8, n9⟩ := hN
  have hN : Names utf := ⟨n1, n2, n3, n4, n5, n6, n7, n8, n9⟩
  induction h with
  | phrase t f to nx h =>
    intro _ ht hf hto
    refine errs_cmp n7 (by decide) (by simp) (fun a ha => ?_)
    simp only [List.mem_cons, List.not_mem_nil, or_false] at ha
    rcases ha with rfl | rfl | rfl
    · exact ht
    · exact hf
    · exact hto
  | seq n m b v x y f to nx a c n1 n2 h ha hc iha ihc =>
    intro h0 ht hf hto
    have hh := errs_iff.1 ht
    have h1 := one_iff.1 hh.1
    have := ha.next
    exact errs_two h1.2.2.2.2.1 h1.2.2.2.2.2.1 (iha (by omega) (hh.2 x (by simp [Tm.as])) hf (errs_var n9 h0)) (ihc (by omega) (hh.2 y (by simp [Tm.as])) (errs_var n9 h0) hto)
  | alt n m b v x y f to nx a c n1 n2' ha hc iha ihc =>
    intro h0 ht hf hto
    have hh := errs_iff.1 ht
    have := ha.next
    exact errs_two n2 (by decide) (iha (by omega) (hh.2 x (by simp [Tm.as])) hf hto) (ihc (by omega) (hh.2 y (by simp [Tm.as])) hf hto)
  | lst t f to nx h =>
    intro h0 ht hf hto
    exact errs_eqT hN hf (errs_endT hN (elems_errs t ht) hto)
  | neg m b v x f to nx a n1' ha iha =>
    intro h0 ht hf hto
    have hh := errs_iff.1 ht
    refine errs_two n1 (by decide) (errs_cmp n4 (by decide) (by simp) (fun z hz => ?_)) (errs_eqT hN hf hto)
    rw [List.mem_singleton.1 hz]
    exact iha (by omega) (hh.2 x (by simp [Tm.as])) hf (errs_var n9 h0)
  | curly n m b v x f to nx =>
    intro h0 ht hf hto
    exact errs_two n1 (by decide) ((errs_iff.1 ht).2 x (by simp [Tm.as])) (errs_eqT hN hf hto)
  | tru t f to nx =>
    intro h0 ht hf hto
    exact errs_two n1 (by decide) (errs_atom n6 (by decide)) (errs_eqT hN hf hto)
  | cut t f to nx =>
    intro h0 ht hf hto
    exact errs_two n1 (by decide) ht (errs_eqT hN hf hto)
  | nil t f to nx =>
    intro h0 ht hf hto
    exact errs_eqT hN hf hto
  | put t f to nx h =>
    intro h0 ht hf hto
    have hh := errs_iff.1 ht
    have h1 := one_iff.1 hh.1
    refine errs_cmp h1.2.2.2.2.1 h1.2.2.2.2.2.1 (by simp; omega) (fun a ha => ?_)
    simp only [List.mem_append, List.mem_cons, List.not_mem_nil, or_false] at ha
    rcases ha with ha | rfl | rfl
    · exact hh.2 a ha
    · exact hf
    · exact hto
end
/-! ### the size of a term with other terms in the places -/
theorem szs_map (f : Tm → Tm) (as : List Tm) (h : ∀ a ∈ as, sz a ≤ sz (f a)) : szs as ≤ szs (as.map f) := by
  induction as with
  | nil => simp [szs]
  | cons a as ih =>
    simp only [List.map_cons, szs]
    have := h a (by simp)
    have := ih (fun x hx => h x (by simp [hx]))
    omega
theorem sz_inst {utf canon : List UInt8 → Bool} {flo : Int → Bool} (σ : Int → Option Tm) (t : Tm) : errs utf canon flo t = 0 → sz t ≤ sz (inst σ t) := by
  refine Tm.ind (p := fun t => errs utf canon flo t = 0 → sz t ≤ sz (inst σ t)) (fun k n m b v as ih h => ?_) t
  have hh := errs_iff.1 h
  have h1 := one_iff.1 hh.1
  rw [inst]
  by_cases hk : k = 1
  · rw [if_pos hk]
    have has : as = [] := by
      have := h1.2.1
      unfold stray at this
      simp only [Tm.k, Tm.as, Bool.or_eq_false_iff] at this
      have h5 := this.2
      rw [hk] at h5
      simp at h5
      exact h5
    subst has
    cases σ v with
    | none => exact Nat.le_refl _
    | some u => show sz (.mk k n m b v []) ≤ sz u; simp only [sz, szs]; exact sz_pos u
  · rw [if_neg hk, insts_map]
    simp only [sz]
    have := szs_map (inst σ) as (fun a ha => ih a ha (hh.2 a ha))
    omega
end Ht

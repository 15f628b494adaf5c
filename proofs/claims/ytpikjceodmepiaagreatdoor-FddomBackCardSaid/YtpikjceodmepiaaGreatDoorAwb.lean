set_option linter.unusedVariables false
set_option linter.unusedSimpArgs false


namespace Ht
inductive Tm where
  | mk (k : Int) (n m : List UInt8) (b v : Int) (as : List Tm) : Tm
namespace Tm
def k : Tm → Int | mk k _ _ _ _ _ => k
def n : Tm → List UInt8 | mk _ n _ _ _ _ => n
def m : Tm → List UInt8 | mk _ _ m _ _ _ => m
def b : Tm → Int | mk _ _ _ b _ _ => b
def v : Tm → Int | mk _ _ _ _ v _ => v
def as : Tm → List Tm | mk _ _ _ _ _ as => as
end Tm
instance : Inhabited Tm := ⟨.mk 0 [] [] 0 0 []⟩
mutual
/-- how many nodes -/
def sz : Tm → Nat
  | .mk _ _ _ _ _ as => szs as + 1
def szs : List Tm → Nat
  | [] => 0
  | a :: as => sz a + szs as
end
theorem sz_pos (t : Tm) : 0 < sz t := by cases t; simp [sz]
theorem sz_mem {a : Tm} {as : List Tm} (h : a ∈ as) : sz a ≤ szs as := by
  induction as with
  | nil => cases h
  | cons x as ih =>
    simp only [szs]
    rcases List.mem_cons.1 h with rfl | h
    · omega
    · have := ih h; omega
/-- induction over trees -/
theorem Tm.ind {p : Tm → Prop} (h : ∀ k n m b v as, (∀ a ∈ as, p a) → p (.mk k n m b v as)) (t : Tm) : p t := by
  have key : ∀ N t, sz t ≤ N → p t := by
    intro N
    induction N with
    | zero => intro t ht; have := sz_pos t; omega
    | succ N ih =>
      intro t ht
      obtain ⟨k, n, m, b, v, as⟩ := t
      refine h _ _ _ _ _ _ (fun a ha => ih a ?_)
      have := sz_mem ha
      simp only [sz] at ht
      omega
  exact key _ t (Nat.le_refl _)
mutual
def cnt : Tm → Nat → Nat
  | .mk _ _ _ _ _ as, n => cnts as (n + 1)
def cnts : List Tm → Nat → Nat
  | [], n => n
  | a :: as, n => if 4000 < n then n else cnts as (cnt a n)
end
theorem cnts_le : ∀ (as : List Tm), (∀ a ∈ as, ∀ n, n ≤ cnt a n) → ∀ n, n ≤ cnts as n
  | [], _, n => by simp [cnts]
  | a :: as, h, n => by
    simp only [cnts]
    split
    · omega
    · have h1 := h a (by simp) n
      have h2 := cnts_le as (fun x hx => h x (by simp [hx])) (cnt a n)
      omega
theorem cnt_ge (t : Tm) : ∀ n, n ≤ cnt t n := by
  refine Tm.ind (p := fun t => ∀ n, n ≤ cnt t n) (fun k nm m b v as ih n => ?_) t
  simp only [cnt]
  have := cnts_le as ih (n + 1)
  omega
theorem cnts_ge (as : List Tm) (n : Nat) : n ≤ cnts as n := cnts_le as (fun a _ => cnt_ge a) n
/-- as long as it is not too great, the count is true; and it says when it is too great -/
def Counts (f : Nat → Nat) (s : Nat) : Prop := ∀ n, (n + s ≤ 4000 → f n = n + s) ∧ (4000 < n + s → 4000 < f n) ∧ f n ≤ n + s
theorem cnts_counts : ∀ (as : List Tm), (∀ a ∈ as, Counts (cnt a) (sz a)) → Counts (cnts as) (szs as)
  | [], _ => fun n => by simp [cnts, szs]
  | a :: as, h => fun n => by
    have ha := h a (by simp)
    have hs := cnts_counts as (fun x hx => h x (by simp [hx]))
    simp only [cnts, szs]
    by_cases hn : 4000 < n
    · rw [if_pos hn]; refine ⟨fun h => by omega, fun _ => hn, by omega⟩
    · rw [if_neg hn]
      obtain ⟨a1, a2, a3⟩ := ha n
      obtain ⟨b1, b2, b3⟩ := hs (cnt a n)
      refine ⟨fun h => ?_, fun h => ?_, by omega⟩
      · rw [b1 (by omega), a1 (by omega)]; omega
      · by_cases hc : n + sz a ≤ 4000
        · rw [a1 hc] at b2 ⊢
          exact b2 (by omega)
        · have := a2 (by omega)
          have := cnts_ge as (cnt a n)
          omega
theorem cnt_counts (t : Tm) : Counts (cnt t) (sz t) := by
  refine Tm.ind (p := fun t => Counts (cnt t) (sz t)) (fun k nm m b v as ih => ?_) t
  intro n
  obtain ⟨a1, a2, a3⟩ := cnts_counts as ih (n + 1)
  simp only [cnt, sz]
  exact ⟨fun h => by rw [a1 (by omega)]; omega, fun h => a2 (by omega), by omega⟩
def nodes (t : Tm) : Nat := min (cnt t 0) 4001
theorem nodes_le {t : Tm} : nodes t ≤ 4000 ↔ sz t ≤ 4000 := by
  obtain ⟨h1, h2, _⟩ := cnt_counts t 0
  unfold nodes
  constructor
  · intro h
    refine Decidable.byContradiction fun hn => ?_
    have := h2 (by omega)
    omega
  · intro h
    rw [h1 (by omega)]
    omega
section
variable (utf canon : List UInt8 → Bool) (flo : Int → Bool)
/-- is a field set that its kind does not use? -/
def stray (t : Tm) : Bool :=
  (t.n ≠ [] && t.k ≠ 2 && t.k ≠ 5) || (t.m ≠ [] && t.k ≠ 3) || (t.b ≠ 0 && t.k ≠ 4) || (t.v ≠ 0 && t.k ≠ 1) || (t.as.length ≠ 0 && t.k ≠ 5)
def one (t : Tm) : Int :=
  if t.k < 1 ∨ 5 < t.k ∨ stray t = true ∨ t.v < 0 ∨ (t.k = 5 ∧ (t.as.length = 0 ∨ 64 < t.as.length)) then 20
  else if utf t.n = false ∨ 1000 < t.n.length then 21
  else if t.k = 3 ∧ canon t.m = false then 22
  else if t.k = 4 ∧ flo t.b = false then 23
  else 0
mutual
def errs : Tm → Int
  | .mk k n m b v as => if one utf canon flo (.mk k n m b v as) ≠ 0 then one utf canon flo (.mk k n m b v as) else errss as
def errss : List Tm → Int
  | [] => 0
  | a :: as => if errs a ≠ 0 then errs a else errss as
end
def check (t : Tm) : Int := if 4000 < nodes t then 24 else errs utf canon flo t
end
end Ht
namespace Ht
def atomT (s : List UInt8) : Tm := .mk 2 s [] 0 0 []
def cmpT (s : List UInt8) (as : List Tm) : Tm := .mk 5 s [] 0 0 as
end Ht
namespace Ht
section
variable {utf canon : List UInt8 → Bool} {flo : Int → Bool}
theorem errss_iff {as : List Tm} : errss utf canon flo as = 0 ↔ ∀ a ∈ as, errs utf canon flo a = 0 := by
  induction as with
  | nil => simp [errss]
  | cons a as ih =>
    rw [errss]
    by_cases h : errs utf canon flo a = 0
    · rw [if_neg (by simp [h]), ih]; simp [h]
    · rw [if_pos h]; simp [h]
theorem errs_iff {t : Tm} : errs utf canon flo t = 0 ↔ one utf canon flo t = 0 ∧ ∀ a ∈ t.as, errs utf canon flo a = 0 := by
  obtain ⟨k, n, m, b, v, as⟩ := t
  rw [errs, ← errss_iff]
  show _ ↔ _ ∧ errss utf canon flo as = 0
  by_cases h : one utf canon flo (.mk k n m b v as) = 0
  · rw [if_neg (by simp [h])]; simp [h]
  · rw [if_pos h]; simp [h]
theorem check_iff {t : Tm} : check utf canon flo t = 0 ↔ sz t ≤ 4000 ∧ errs utf canon flo t = 0 := by
  unfold check
  by_cases h : 4000 < nodes t
  · rw [if_pos h]
    have : ¬ sz t ≤ 4000 := fun h2 => by rw [← nodes_le] at h2; omega
    simp [this]
  · rw [if_neg h]
    have : sz t ≤ 4000 := nodes_le.1 (by omega)
    simp [this]
theorem sz_arg {t a : Tm} (h : a ∈ t.as) : sz a < sz t := by
  obtain ⟨k, n, m, b, v, as⟩ := t
  have := sz_mem (show a ∈ as from h)
  simp only [sz]; omega
theorem check_arg {t a : Tm} (h : check utf canon flo t = 0) (ha : a ∈ t.as) : check utf canon flo a = 0 := by
  rw [check_iff] at h ⊢
  have := sz_arg ha
  exact ⟨by omega, (errs_iff.1 h.2).2 a ha⟩
/-- what is right with a node -/
theorem one_iff {t : Tm} : one utf canon flo t = 0 ↔ (1 ≤ t.k ∧ t.k ≤ 5) ∧ stray t = false ∧ 0 ≤ t.v ∧ (t.k = 5 → 1 ≤ t.as.length ∧ t.as.length ≤ 64) ∧ utf t.n = true ∧ t.n.length ≤ 1000 ∧ (t.k = 3 → canon t.m = true) ∧ (t.k = 4 → flo t.b = true) := by
  unfold one
  by_cases h1 : t.k < 1 ∨ 5 < t.k ∨ stray t = true ∨ t.v < 0 ∨ (t.k = 5 ∧ (t.as.length = 0 ∨ 64 < t.as.length))
  · rw [if_pos h1]
    constructor
    · intro h; cases h
    · rintro ⟨a1, a2, a3, a4, _⟩
      rcases h1 with h | h | h | h | ⟨h, h2⟩
      · omega
      · omega
      · rw [a2] at h; cases h
      · omega
      · have := a4 h; omega
  · rw [if_neg h1]
    have hs : stray t = false := by
      cases h : stray t with
      | false => rfl
      | true => exact absurd (.inr (.inr (.inl h))) h1
    have h5 : t.k = 5 → 1 ≤ t.as.length ∧ t.as.length ≤ 64 := fun h => by
      constructor
      · refine Decidable.byContradiction fun hn => h1 (.inr (.inr (.inr (.inr ⟨h, .inl (by omega)⟩))))
      · refine Decidable.byContradiction fun hn => h1 (.inr (.inr (.inr (.inr ⟨h, .inr (by omega)⟩))))
    have hk : 1 ≤ t.k ∧ t.k ≤ 5 := ⟨Decidable.byContradiction fun hn => h1 (.inl (by omega)), Decidable.byContradiction fun hn => h1 (.inr (.inl (by omega)))⟩
    have hv : 0 ≤ t.v := Decidable.byContradiction fun hn => h1 (.inr (.inr (.inr (.inl (by omega)))))
    by_cases h2 : utf t.n = false ∨ 1000 < t.n.length
    · rw [if_pos h2]
      constructor
      · intro h; cases h
      · rintro ⟨_, _, _, _, a5, a6, _⟩
        rcases h2 with h | h
        · rw [a5] at h; cases h
        · omega
    · rw [if_neg h2]
      have hu : utf t.n = true := by
        cases h : utf t.n with
        | true => rfl
        | false => exact absurd (.inl h) h2
      have hl : t.n.length ≤ 1000 := Decidable.byContradiction fun hn => h2 (.inr (by omega))
      by_cases h3 : t.k = 3 ∧ canon t.m = false
      · rw [if_pos h3]
        constructor
        · intro h; cases h
        · rintro ⟨_, _, _, _, _, _, a7, _⟩
          rw [a7 h3.1] at h3; cases h3.2
      · rw [if_neg h3]
        have hc : t.k = 3 → canon t.m = true := fun h => by
          cases h9 : canon t.m with
          | true => rfl
          | false => exact absurd ⟨h, h9⟩ h3
        by_cases h4 : t.k = 4 ∧ flo t.b = false
        · rw [if_pos h4]
          constructor
          · intro h; cases h
          · rintro ⟨_, _, _, _, _, _, _, a8⟩
            rw [a8 h4.1] at h4; cases h4.2
        · rw [if_neg h4]
          have hf : t.k = 4 → flo t.b = true := fun h => by
            cases h9 : flo t.b with
            | true => rfl
            | false => exact absurd ⟨h, h9⟩ h4
          exact ⟨fun _ => ⟨hk, hs, hv, h5, hu, hl, hc, hf⟩, fun _ => rfl⟩
theorem check_one {t : Tm} (h : check utf canon flo t = 0) : one utf canon flo t = 0 := (errs_iff.1 (check_iff.1 h).2).1
end
end Ht


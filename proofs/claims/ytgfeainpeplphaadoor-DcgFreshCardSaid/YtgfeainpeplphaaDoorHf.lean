/-
  Plain: the laws DcgFresh and DcgLists of what a rule and a body become. No program in sight.
-/
import Derived.Test.YtgfeainpeplphaaDoorHe
namespace Ht
theorem whole_ok {t g : Tm} (h : whole t = .ok g) : t = g ∧ sz t ≤ 4000 := by
  unfold whole at h
  split at h
  · cases h
  · cases h; exact ⟨rfl, nodes_le.1 (by omega)⟩
theorem putT_ok {t f to g : Tm} (h : putT t f to = .ok g) : g = cmpT t.n (t.as ++ [f, to]) ∧ t.as.length ≤ 62 := by
  unfold putT at h
  split at h
  · cases h
  · cases h; exact ⟨rfl, by omega⟩
theorem isC_iff {t : Tm} {s : List UInt8} {n : Nat} : isC t s n = true ↔ t.k = 5 ∧ t.n = s ∧ t.as.length = n := by
  unfold isC; simp [and_assoc]
theorem getD_has {x : Int} {t : Tm} {i : Nat} (h : HasV x (t.as.getD i zeroT)) : HasV x t := by
  rw [List.getD_eq_getElem?_getD] at h
  cases e : t.as[i]? with
  | none =>
    rw [e] at h
    simp [zeroT, HasV, HasVs] at h
  | some a => rw [e] at h; exact hasV_arg (List.mem_of_getElem? e) h
/-- what a rule becomes, as a case -/
theorem ruleT_ok {t a : Tm} (h : ruleT t = .ok a) : ∃ hd g : Tm, a = cmpT sNeck [hd, g] ∧ sz a ≤ 4000 ∧ ∃ h0 : Tm, hd = cmpT h0.n (h0.as ++ [varT (above t), varT (above t + 1)]) ∧ (∀ x, HasV x h0 → HasV x t) ∧
    ((∃ n', Mk (t.as.getD 1 zeroT) (varT (above t)) (varT (above t + 1)) (above t + 2) g n') ∨
     (∃ n' g' l, Mk (t.as.getD 1 zeroT) (varT (above t)) (varT (above t + 2)) (above t + 3) g' n' ∧ g = cmpT sComma [g', eqT (varT (above t + 1)) (endT l (varT (above t + 2)))] ∧ ∀ a ∈ l, ∀ x, HasV x a → HasV x t)) := by
  unfold ruleT at h
  dsimp only at h
  split at h
  · cases h
  by_cases hp : isC (t.as.getD 0 zeroT) sComma 2 = true
  · rw [hp] at h
    simp only [if_true, true_and] at h
    split at h
    · cases h
    split at h
    · cases h
    split at h
    · cases h
    split at h
    · cases h
    next hd hput =>
    obtain ⟨rfl, _⟩ := putT_ok hput
    split at h
    · cases h
    · next g n' hm =>
      obtain ⟨rfl, hs⟩ := whole_ok h
      refine ⟨_, _, rfl, hs, _, rfl, fun x hx => getD_has (getD_has hx), .inr ⟨n', g, _, mkB_mk _ _ _ _ _ _ hm, rfl, fun a ha x hx => ?_⟩⟩
      exact getD_has (getD_has (elems_has _ x a ha hx))
  · have hp' : isC (t.as.getD 0 zeroT) sComma 2 = false := by simpa using hp
    rw [hp'] at h
    simp only [Bool.false_eq_true, if_false, false_and] at h
    split at h
    · cases h
    split at h
    · cases h
    split at h
    · cases h
    next hd hput =>
    obtain ⟨rfl, _⟩ := putT_ok hput
    split at h
    · cases h
    · next g n' hm =>
      obtain ⟨rfl, hs⟩ := whole_ok h
      exact ⟨_, _, rfl, hs, _, rfl, fun x hx => getD_has hx, .inl ⟨n', mkB_mk _ _ _ _ _ _ hm⟩⟩
/-- DcgFresh -/
theorem fresh_law {t a : Tm} (h : ruleT t = .ok a) : ∃ m hd g, a = cmpT sNeck [hd, g] ∧ 2 ≤ hd.as.length ∧ sz a ≤ 4000 ∧ above t + 2 ≤ m ∧ m ≤ above t + 8000 + sz t ∧ (∀ x, HasV x a → HasV x t ∨ (above t ≤ x ∧ x < m)) ∧ (∀ x, above t ≤ x → x < m → HasV x a) := by
  obtain ⟨hd, g, ha, hs, h0, hhd, hh0, hg⟩ := ruleT_ok h
  have hsz : ∀ i, sz (t.as.getD i zeroT) ≤ sz t := by
    intro i
    rw [List.getD_eq_getElem?_getD]
    cases e : t.as[i]? with
    | none => show sz zeroT ≤ _; have := sz_pos t; simp [zeroT, sz, szs]; omega
    | some y => have := sz_arg (List.mem_of_getElem? e); show sz y ≤ _; omega
  have hz := hsz 1
  subst hhd
  have hhas : ∀ x, HasV x (cmpT h0.n (h0.as ++ [varT (above t), varT (above t + 1)])) ↔ (∃ a ∈ h0.as, HasV x a) ∨ x = above t ∨ x = above t + 1 := by
    intro x
    rw [hasV_cmp]
    simp only [List.mem_append, List.mem_cons, List.not_mem_nil, or_false]
    constructor
    · rintro ⟨a, ha | rfl | rfl, h⟩
      · exact .inl ⟨a, ha, h⟩
      · exact .inr (.inl (hasV_var.1 h))
      · exact .inr (.inr (hasV_var.1 h))
    · rintro (⟨a, ha, h⟩ | h | h)
      · exact ⟨a, .inl ha, h⟩
      · exact ⟨_, .inr (.inl rfl), hasV_var.2 h⟩
      · exact ⟨_, .inr (.inr rfl), hasV_var.2 h⟩
  have two : ∀ x hd g, HasV x (cmpT sNeck [hd, g]) ↔ HasV x hd ∨ HasV x g := by
    intro x hd g; rw [hasV_cmp]; simp
  rcases hg with ⟨n', hm⟩ | ⟨n', g', l, hm, rfl, hl⟩
  · have hnx := hm.next
    obtain ⟨m1, m2, m3, m4⟩ := hm.has
    refine ⟨n', _, g, ha, by simp [cmpT, Tm.as], hs, by omega, by omega, fun x hx => ?_, fun x h1 h2 => ?_⟩
    · rw [ha, two, hhas] at hx
      rcases hx with (⟨b, hb, h⟩ | h | h) | hx
      · exact .inl (hh0 x (hasV_arg hb h))
      · exact .inr (by omega)
      · exact .inr (by omega)
      · rcases m4 x hx with h | h | h | h
        · exact .inl (getD_has h)
        · have := hasV_var.1 h; exact .inr (by omega)
        · have := hasV_var.1 h; exact .inr (by omega)
        · exact .inr (by omega)
    · rw [ha, two, hhas]
      by_cases e1 : x = above t
      · exact .inl (.inr (.inl e1))
      · by_cases e2 : x = above t + 1
        · exact .inl (.inr (.inr e2))
        · exact .inr (m3 x (by omega) h2)
  · have hnx := hm.next
    obtain ⟨m1, m2, m3, m4⟩ := hm.has
    have hg : ∀ x, HasV x (cmpT sComma [g', eqT (varT (above t + 1)) (endT l (varT (above t + 2)))]) ↔ HasV x g' ∨ x = above t + 1 ∨ (∃ a ∈ l, HasV x a) ∨ x = above t + 2 := by
      intro x
      rw [hasV_cmp]
      simp [hasV_eq, hasV_end, hasV_var]
    refine ⟨n', _, _, ha, by simp [cmpT, Tm.as], hs, by omega, by omega, fun x hx => ?_, fun x h1 h2 => ?_⟩
    · rw [ha, two, hhas, hg] at hx
      rcases hx with (⟨b, hb, h⟩ | h | h) | hx | h | ⟨b, hb, h⟩ | h
      · exact .inl (hh0 x (hasV_arg hb h))
      · exact .inr (by omega)
      · exact .inr (by omega)
      · rcases m4 x hx with h | h | h | h
        · exact .inl (getD_has h)
        · have := hasV_var.1 h; exact .inr (by omega)
        · have := hasV_var.1 h; exact .inr (by omega)
        · exact .inr (by omega)
      · exact .inr (by omega)
      · exact .inl (hl b hb x h)
      · exact .inr (by omega)
    · rw [ha, two, hhas, hg]
      by_cases e1 : x = above t
      · exact .inl (.inr (.inl e1))
      · by_cases e2 : x = above t + 1
        · exact .inl (.inr (.inr e2))
        · by_cases e3 : x = above t + 2
          · exact .inr (.inr (.inr (.inr e3)))
          · exact .inr (.inl (m3 x (by omega) h2))
/-! ### DcgLists -/
def bind2 (n : Int) (f to : Tm) (x : Int) : Option Tm := if x = n then some f else if x = n + 1 then some to else none
section
variable {utf canon : List UInt8 → Bool} {flo : Int → Bool}
theorem lists_law {t f to a : Tm} {n k : Int} (hN : Names utf) (ht : check utf canon flo t = 0) (hn0 : 0 ≤ n) (hn : above t ≤ n)
    (h : bodyT t f to (n + 2) = .ok (a, k)) : ∃ b, bodyT t (varT n) (varT (n + 1)) (n + 2) = .ok (b, k) ∧ inst (bind2 n f to) b = a ∧ check utf canon flo b = 0 ∧ sz a ≤ 4000 := by
  have key := mkB_inst (σ := bind2 n f to) t (varT n) (varT (n + 1)) (n + 2) (fun x hx => by
    have := above_gt hx
    unfold bind2
    rw [if_neg (by omega), if_neg (by omega)]) (fun x hx => by unfold bind2; rw [if_neg (by omega), if_neg (by omega)])
  have e1 : inst (bind2 n f to) (varT n) = f := by unfold varT; rw [inst, if_pos rfl]; unfold bind2; rw [if_pos rfl]
  have e2 : inst (bind2 n f to) (varT (n + 1)) = to := by unfold varT; rw [inst, if_pos rfl]; unfold bind2; rw [if_neg (by omega), if_pos rfl]
  rw [e1, e2] at key
  unfold bodyT at h
  rw [key] at h
  cases hb : mkB t (varT n) (varT (n + 1)) (n + 2) with
  | error e => rw [hb] at h; cases h
  | ok p =>
    obtain ⟨b, n'⟩ := p
    rw [hb] at h
    simp only [outMap, Except.map] at h
    cases hw : whole (inst (bind2 n f to) b) with
    | error e => rw [hw] at h; cases h
    | ok g =>
      rw [hw] at h
      cases h
      obtain ⟨rfl, hs⟩ := whole_ok hw
      have hm := mkB_mk _ _ _ _ _ _ hb
      have hbe : errs utf canon flo b = 0 := hm.errs hN (by omega) (check_iff.1 ht).2 (errs_var hN.2.2.2.2.2.2.2.2 hn0) (errs_var hN.2.2.2.2.2.2.2.2 (by omega))
      have hsb := sz_inst (bind2 n f to) b hbe
      have hs4 : sz b ≤ 4000 := by omega
      refine ⟨b, ?_, rfl, check_iff.2 ⟨hs4, hbe⟩, hs⟩
      unfold bodyT
      rw [hb]
      have : ¬ 4000 < nodes b := by have := nodes_le.2 hs4; omega
      simp only [whole, if_neg this]
/-- the count of a term with other terms in the places -/
def sized (σ : Int → Option Tm) (t : Tm) (n : Nat) : Nat := cnt (inst σ t) n
end
end Ht
